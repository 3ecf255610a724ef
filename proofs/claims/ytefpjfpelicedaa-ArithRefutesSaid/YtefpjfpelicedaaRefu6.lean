/- Part 6 of 11 of what the proof of Refu needs. -/
import Derived.Test.YtefpjfpelicedaaRefu5
import Derived.DeepKeys4
import Derived.Test.YtefpjfpelicedaaRefu3
section
/- What divides all numbers of a row; a row's key. -/
set_option linter.unusedVariables false
set_option linter.unusedSimpArgs false
set_option maxRecDepth 20000
set_option maxHeartbeats 4000000
namespace Go.PV.Ytefpjfpelicedaa
open Go Go.Proofs
theorem en_78' : enterable Try.prog 78 = true := by kernel_rfl
def gcdN : Nat → Int → Int → Int
  | 0, a, _ => a
  | n + 1, a, b => if b = 0 then max a (W (-a)) else gcdN n b (a.tmod b)
def gcdF (a b : Int) : Int := gcdN (b.natAbs + 1) a b
theorem tmod_lt {a b : Int} (h : b ≠ 0) : (a.tmod b).natAbs < b.natAbs := by
  rw [Int.natAbs_tmod]; exact Nat.mod_lt _ (by omega)
theorem gcdN_fuel : ∀ (n m : Nat) (a b : Int), b.natAbs < n → b.natAbs < m → gcdN n a b = gcdN m a b
  | n + 1, m + 1, a, b, h1, h2 => by
    simp only [gcdN]
    split
    · rfl
    · rename_i h
      have := tmod_lt (a := a) h
      exact gcdN_fuel n m _ _ (by omega) (by omega)
theorem gcdF_zero (a : Int) : gcdF a 0 = max a (W (-a)) := by simp [gcdF, gcdN]
theorem gcdF_step {a b : Int} (h : b ≠ 0) : gcdF a b = gcdF b (a.tmod b) := by
  have := tmod_lt (a := a) h
  conv => lhs; unfold gcdF
  simp only [gcdN, if_neg h]
  exact gcdN_fuel _ _ _ _ (by omega) (by omega)
theorem gcd78 : ∀ (n : Nat) (a b : Int), b.natAbs < n → ∀ {H : AH} {c : Nat}, H c = some (.cells 112 [.func (.func 78) [] [ptrV c 0]] 0) → ReadF Try.prog 78 [iV a, iV b, ptrV c 0] (iV (gcdF a b)) H
  | n + 1, a, b, hb, H, c, hc => by
    unfold ReadF
    refine vcalls_intro fd78 (by simp) ?_
    unfold c78
    by_cases h : b = 0
    · (repeat' (first | (simp only [↓s_reg, ↓s_seq, ↓s_cond, ↓s_condT, ↓s_ret, ↓s_nil, ↓s_consN, ↓s_thenN, ↓s_thenR, ↓s_kret, ↓s_putS, ↓s_dOkS, ↓s_ev_t, ↓s_ev_c, ↓s_upd, ↓s_move, ↓s_assign, ↓s_bin, ↓s_un, ↓s_callB, ↓s_max, ↓s_un_neg, ↓s_bin_eql, ptrV, List.map_cons, List.map_nil, List.getD_cons_zero, List.getD_cons_succ, List.getD_nil, ite_true, ite_false, Nat.reduceEqDiff, Nat.reduceLT, true_and, Nat.succ_ne_self, decide_true, reduceCtorEq, undefV, eq_self, vcMax, undef, *]) | (refine ret_tmp ?_) | (exact SubH.refl _) | (with_reducible refine And.intro ?_ ?_)))
      rw [gcdF_zero, show max a (W (-a)) = if W (-a) > a then W (-a) else a from by rw [Int.max_def]; split <;> split <;> omega]
    · have ih := gcd78 n b (a.tmod b) (by have := tmod_lt (a := a) h; omega) hc
      rw [gcdF_step h]
      (repeat' (first | (refine ih.use ?_) | (simp only [↓s_skip, ↓s_reg, ↓s_seq, ↓s_cond, ↓s_condF, ↓s_ret, ↓s_dreg, ↓s_nil, ↓s_consN, ↓s_thenN, ↓s_kret, ↓s_putS, ↓s_dOkS, ↓s_ev_t, ↓s_ev_c, ↓s_upd, ↓s_move, ↓s_assign, ↓s_load, ↓s_bin, ↓s_callV, ↓s_callF, ↓s_bin_eql, ↓s_bin_rem, ptrV, List.map_cons, List.map_nil, List.getD_cons_zero, List.getD_cons_succ, List.getD_nil, List.cons_append, List.nil_append, ite_true, ite_false, Nat.reduceEqDiff, Nat.reduceLT, not_false_eq_true, true_and, Nat.succ_ne_self, decide_false, reduceCtorEq, undefV, ↓s_plFin, ↓s_plTkN, eq_self, List.drop, ldV_f, n_ldP, n_ldA, n_ldB, ↓s_plK, undef, en_78', ldT_112, *]) | (refine ret_tmp ?_) | (refine acx_dreg mixed (fun _ _ _ _ e h => ⟨e.trans h.1, h.2⟩) _ (SubH.refl _) ?_) | (exact SubH.refl _)))
/-- What divides all numbers of a row: 0, if all are 0. -/
def commonGo : List Int → Int → Int
  | [], g => g
  | c :: cs, g => commonGo cs (gcdF g c)
def commonF (r : Row) : Int := commonGo r.c 0
theorem common62 (r : Row) (hn : (r.c.length : Int) ≤ 9223372036854775806) : PureF Try.prog 62 [rowV r] (iV (commonF r)) := by
  refine PureF.forget fun H => ?_
  refine vcalls_intro fd62 (by simp) ?_
  unfold c62
  (repeat' (first | (simp only [↓s_reg, ↓s_seq, ↓s_seqL, ↓s_block, ↓s_loop, ↓s_nil, ↓s_consN, ↓s_thenN, ↓s_kret, ↓s_putS, ↓s_putN, ↓s_dOkS, ↓s_dOkN, ↓s_ev_t, ↓s_ev_c, ↓s_upd, ↓s_move, ↓s_assign, ↓s_load, ↓s_store, ↓s_alloc, ↓s_box, ↓s_makeFunc, ↓s_fieldAddr, ↓s_callB, ↓s_len, ptrV, intV, List.map_cons, List.map_nil, List.length_cons, List.length_nil, List.getD_cons_zero, List.getD_cons_succ, List.getD_nil, ite_true, ite_false, Nat.reduceEqDiff, Nat.reduceLT, ne_eq, not_false_eq_true, true_and, Nat.succ_ne_self, reduceCtorEq, undefV, AH.get, AH.set_set, setAt, List.all_cons, List.all_nil, Bool.and_self, eq_self, Nat.zero_add, Nat.add_zero, List.drop, ldV_f, cl_agg, cl_func, on_func, List.set_cons_zero, ↓n_alloc, n_allocS, ↓n_box, Nat.le_refl, n_ldP, n_faP, n_lenS, n_ldA, n_ldB, n_faA, n_stP, n_stA, undef, flT_50_0, ldT_37, szT_112, zeroT_112, elT_37, *]) | (refine allNew_intro fun zr zh => ?_; have zg := zh; (try simp only [AH.set_none] at zg))))
  rename_i r1 _ _
  revert zr
  intro r3 zh3 zg3
  refine acx_loop (fun _ _ _ h => h) (fun A H' => SubH H H' ∧ A.d = [] ∧ A.t 3 = ptrV r3 0 ∧ A.t 9 = intsV r.c ∧ A.t 10 = iV r.c.length ∧ H' r3 = some (.cells 112 [.func (.func 78) [] [ptrV r3 0]] 0) ∧ ∃ (i : Nat) (g : Int), i ≤ r.c.length ∧ A.t 11 = iV i ∧ A.t 4 = iV g ∧ commonF r = commonGo (r.c.drop i) g)
    (fun A _ => match A.t 11 with | .lit (.int _ i) => ((r.c.length : Int) - i).toNat | _ => 0) ?_ ?_
  · refine ⟨?_, rfl, rfl, rfl, rfl, ?_, 0, 0, by omega, rfl, rfl, rfl⟩
    · exact SubH.of_set (SubH.of_set (SubH.refl _) (by assumption)) zg3.2
    · rw [AH.set_same]; rfl
  · rintro ⟨t, d⟩ H' ⟨hs, rfl, h3, h9, h10, k3, i, g, hi, h11, h4, hgo⟩
    dsimp only at h3 h4 h9 h10 h11
    unfold b62_1
    (repeat' (first | (refine (gcd78 _ _ _ (Nat.lt_succ_self _) k3).use ?_) | (simp only [↓s_skip, ↓s_reg, ↓s_seq, ↓s_cond, ↓s_block, ↓s_exit, ↓s_nil, ↓s_consN, ↓s_thenN, ↓s_thenE, ↓s_inN, ↓s_inE, ↓s_kret, ↓s_putS, ↓s_dOkS, ↓s_ev_t, ↓s_ev_c, ↓s_upd, ↓s_move, ↓s_assign, ↓s_load, ↓s_bin, ↓s_indexAddr, ↓s_callV, ↓s_callF, ↓s_bin_lss, ↓s_bin_add, ptrV, List.map_cons, List.map_nil, List.cons_append, List.nil_append, ite_true, ite_false, Nat.reduceEqDiff, Nat.reduceLT, true_and, Nat.succ_ne_self, decide_true, decide_false, Int.natCast_nonneg, Int.toNat_natCast, Nat.mul_one, eq_self, List.drop, and_self, ldV_f, Int.ofNat_lt, n_ldI, n_ldP, n_ixS, n_ixA1, n_ldA, n_ldC, n_ldB, en_78', ints_drop, ldT_3, ldT_112, elT_37, *]) | (refine condL_splitD ?_ ?_ <;> intro) | (refine acx_go rfl (fun _ _ _ h => h) ?_) | (with_reducible refine And.intro ?_ ?_)))
    · have hb : i < r.c.length := by assumption
      rw [wrap_ok (n := (i : Int) + 1) (by omega) (by omega)]
      refine ⟨i + 1, _, by omega, rfl, rfl, ?_⟩
      rw [List.drop_eq_getElem_cons hb]; rfl
    · rw [wrap_ok (n := (i : Int) + 1) (by omega) (by omega)]
      omega
    · rw [List.drop_eq_nil_of_le (by omega)]
      unfold c62_1
      (repeat' (first | (simp only [↓s_reg, ↓s_seq, ↓s_ret, ↓s_nil, ↓s_consN, ↓s_thenN, ↓s_putS, ↓s_dOkS, ↓s_ev_t, ↓s_upd, ↓s_move, ↓s_assign, ite_true, ite_false, Nat.reduceEqDiff, Nat.reduceLT, true_and, eq_self, and_self, commonGo, *]) | (refine ret_tmp ?_)))
def keyL (r : Row) : List Int := wideL r.c 12
theorem key75 (r : Row) (hn : r.c.length ≤ 12) : PureF Try.prog 75 [rowV r] (.agg (encC intE (keyL r))) := by
  refine PureF.forget fun H => ?_
  refine vcalls_intro fd75 (by simp) ?_
  unfold c75
  (repeat' (first | (simp only [↓s_reg, ↓s_seq, ↓s_dreg, ↓s_nil, ↓s_consN, ↓s_thenN, ↓s_kret, ↓s_putS, ↓s_dOkS, ↓s_ev_t, ↓s_upd, ↓s_load, ↓s_alloc, ↓s_box, ↓s_slice, ↓s_fieldAddr, ↓s_callB, ↓s_copy, ptrV, List.map_cons, List.map_nil, List.getD_cons_zero, List.getD_cons_succ, List.getD_nil, ite_true, ite_false, Nat.reduceEqDiff, Nat.reduceLT, Nat.reduceSub, Nat.reduceLeDiff, ne_eq, not_false_eq_true, not_true_eq_false, true_and, Nat.succ_ne_self, reduceCtorEq, Nat.mul_one, undefV, ↓s_plFin, ↓s_plTkN, AH.get, eq_self, Nat.add_zero, List.drop, and_self, ldV_f, cl_agg, ↓n_alloc, n_allocS, ↓n_box, Nat.le_refl, n_ldP, n_faP, n_ldA, n_ldB, n_faA, ↓s_plK, undef, vcSlice, arT_118, Option.map_none, sliceOk, idxV, idxOk, imp_self, flT_50_0, ldT_37, zeroT_118, *]) | (refine acx_dreg mixed (fun _ _ _ _ e h => ⟨e.trans h.1, h.2⟩) _ (SubH.refl _) ?_) | (refine allNew_intro fun zr zh => ?_; have zg := zh; (try simp only [AH.set_none] at zg))))
  refine copy_at (cs := encC intE (List.replicate 12 0)) elT_37 (by simp only [AH.get, *, if_true, if_false]; rfl) (ints_src _ _) (ints_one _) (by rw [ints_len]; simp) ?_
  rw [wide_set _ _ hn]
  have hld : ldV 12 true (encC intE (wideL r.c 12)) = some (.agg (encC intE (wideL r.c 12))) := by
    have := ldV_agg (n := 12) (xs := encC intE (wideL r.c 12)) (ys := []) (by rw [ints_len, wide_len])
    simpa using this
  have hlen : (encC intE (wideL r.c 12)).length = 12 := by rw [ints_len, wide_len]
  have hone := ints_one (wideL r.c 12)
  unfold keyL
  generalize encC intE (wideL r.c 12) = cs at hld hlen hone ⊢
  have hset : setAt (encC intE (List.replicate 12 0)) 0 cs = cs := by
    rw [setAt_eq _ _ _ (by rw [ints_len]; simp [hlen]), List.take_zero, List.nil_append, Nat.zero_add, hlen, List.drop_eq_nil_of_le (by rw [ints_len]; simp), List.append_nil]
  have hset' : setAt [VV.lit (.int .i64 0), VV.lit (.int .i64 0), VV.lit (.int .i64 0), VV.lit (.int .i64 0), VV.lit (.int .i64 0), VV.lit (.int .i64 0), VV.lit (.int .i64 0), VV.lit (.int .i64 0), VV.lit (.int .i64 0), VV.lit (.int .i64 0), VV.lit (.int .i64 0), VV.lit (.int .i64 0)] 0 cs = cs := hset
  (repeat' (first | (simp only [↓s_reg, ↓s_seq, ↓s_ret, ↓s_nil, ↓s_consN, ↓s_thenN, ↓s_kret, ↓s_putS, ↓s_putN, ↓s_dOkS, ↓s_dOkN, ↓s_ev_t, ↓s_upd, ↓s_load, ↓s_store, intV, List.length_cons, List.length_nil, List.getD_cons_succ, List.getD_nil, ite_true, ite_false, Nat.reduceEqDiff, Nat.reduceLT, Nat.reduceAdd, true_and, Nat.succ_ne_self, AH.get, AH.set_set, eq_self, Nat.zero_add, List.drop, cl_agg, Nat.le_refl, n_ldP, n_ldA, n_ldB, n_stP, n_stA, ldT_118, szT_118, *])))
  refine ret_cell ldT_118 (by simp only [s_upd, Nat.reduceEqDiff, if_true, if_false]; rfl) (by simp only [AH.get, *, if_true, if_false]; rfl) (by rw [List.drop_zero]; exact hld) ⟨rfl, ?_⟩
  repeat (first | assumption | exact SubH.refl _ | refine SubH.of_set ?_ (by simp only [*]))
end Go.PV.Ytefpjfpelicedaa
end
section
/- The search's state; adding a line. -/
set_option linter.unusedVariables false
set_option linter.unusedSimpArgs false
set_option maxRecDepth 20000
set_option maxHeartbeats 4000000
namespace Go.PV
theorem OwnX.swap {H0 H1 H2 : AH} {e e' : TypeId} {k k' n n' : Nat} {v v' : VV} {cs cs' : List VV} (h : OwnX H0 H1 e k v n cs) (h' : OwnX H1 H2 e' k' v' n' cs') : ∃ Hx, OwnX H0 Hx e' k' v' n' cs' ∧ OwnX Hx H2 e k v n cs := by
  rcases h' with ⟨rfl, rfl, rfl, rfl⟩ | ⟨g, c, sp, rfl, h0, rfl, h1, h2, h3, h4⟩
  · exact ⟨H0, OwnX.nil _ _ _, h⟩
  · exact ⟨H0.set g (.cells e' cs' sp), .inr ⟨g, c, sp, rfl, h.sub.none h0, rfl, h1, h2, h3, h4⟩, h.alloc h0 _⟩
theorem OwnX.form {H0 H1 : AH} {e : TypeId} {k n : Nat} {v : VV} {cs : List VV} (h : OwnX H0 H1 e k v n cs) : ∃ a c, v = .lit (.slice a n c) := by
  rcases h with ⟨rfl, rfl, _⟩ | ⟨g, c, sp, rfl, _⟩
  · exact ⟨none, 0, rfl⟩
  · exact ⟨_, c, rfl⟩
end Go.PV
namespace Go.PV.Ytefpjfpelicedaa
open Go Go.Proofs
def RefSt (B H : AH) (s mp : Nat) (rows : List Row) (n : Nat) (most : Int) (made : List Row) (ls : List Line) (km : Value → Option VV) : Prop :=
  ∃ mv lv Hs Hm, B s = none ∧ B mp = none ∧ s ≠ mp ∧ SubH B Hs ∧ Hs s = some (.cells 77 [rowsV rows, iV n, mv, lv, iV most, .lit (.map (some mp))] 0) ∧ Hs mp = some (.map (keysOf Try.prog 75) km) ∧
    OwnX Hs Hm 50 2 mv made.length (encC rowE made) ∧ OwnX Hm H 52 5 lv ls.length (encC lineE ls)
theorem notI82 : notIface Try.prog 82 = true := by kernel_rfl
theorem notI79 : notIface Try.prog 79 = true := by kernel_rfl
def stopE (c : Int) : List PanicEntry := [{ v := .iface 82 (.agg #[.int .i64 c]), recovered := false }]
def foundE : List PanicEntry := [{ v := .iface 79 (.agg #[]), recovered := false }]
theorem line74 {B H : AH} {s mp : Nat} {rows : List Row} {n : Nat} {most : Int} {made : List Row} {ls : List Line} {km : Value → Option VV} {l : Line} {K : VE → AH → Prop} (hst : RefSt B H s mp rows n most made ls km)
    (hrows : ∀ r ∈ rows, r.c.length ≤ n) (hmade : ∀ r ∈ made, Fits n r) (hn : (n : Int) ≤ 1000) (hlen : made.length = ls.length) (hls : ls.length ≤ 5000)
    (hFuel : (ls.length : Int) = most → ∀ H', RefSt B H' s mp rows n most made ls km → K (.pan (stopE 8)) H')
    (hErr : ¬ (ls.length : Int) = most → ¬ (makeF rows made n l).2 = 0 → ∀ H', RefSt B H' s mp rows n most made ls km → K (.pan (stopE (if (makeF rows made n l).2 = 260 then 7 else (makeF rows made n l).2))) H')
    (hFound : ¬ (ls.length : Int) = most → (makeF rows made n l).2 = 0 → absurdF (makeF rows made n l).1 = true → ∀ H', RefSt B H' s mp rows n most (made ++ [(makeF rows made n l).1]) (ls ++ [l]) km → K (.pan foundE) H')
    (hOk : ¬ (ls.length : Int) = most → (makeF rows made n l).2 = 0 → absurdF (makeF rows made n l).1 = false → ∀ H', RefSt B H' s mp rows n most (made ++ [(makeF rows made n l).1]) (ls ++ [l]) km → K (.ret (iV ls.length)) H') :
    VCalls Try.prog 74 [ptrV s 0, lineV l] H K := by
  have hst0 := hst
  obtain ⟨mv, lv, Hs, Hm, b1, b2, b3, hB, ks, km', ho1, ho2⟩ := hst
  have hsub : SubH Hs H := ho1.sub.trans ho2.sub
  have kd := hsub _ _ ks
  have hN : ∀ r, H r = none → ¬ s = r := fun r hr => (AH.ne_of kd hr).1
  have hN' : ∀ r, H r = none → ¬ r = s := fun r hr => (AH.ne_of kd hr).2
  have kdm := hsub _ _ km'
  have hO : ∀ r, H r = none → ¬ mp = r := fun r hr => (AH.ne_of kdm hr).1
  have hBn : ∀ r, H r = none → B r = none := fun r hr => (hB.trans hsub).none hr
  have hM : Made H mv made := (Made.of ho1 rfl).mono ho2.sub
  obtain ⟨la, lc, rfl⟩ := ho2.form
  refine vcalls_intro fd74 (by simp) ?_
  unfold c74
  by_cases hf : (ls.length : Int) = most
  · (repeat' (first | (simp only [↓s_reg, ↓s_seq, ↓s_cond, ↓s_condT, ↓s_dreg, ↓s_nil, ↓s_consN, ↓s_thenN, ↓s_thenP, ↓s_kret, ↓s_putS, ↓s_dOkS, ↓s_dOkN, ↓s_ev_t, ↓s_ev_c, ↓s_upd, ↓s_move, ↓s_assign, ↓s_load, ↓s_nilCheck, ↓s_bin, ↓s_mkIface, ↓s_box, ↓s_build, ↓s_fieldAddr, ↓s_callB, ↓s_panic, ↓s_len, ↓s_bin_eql, vcNil, vcIface, ptrV, intV, List.map_cons, List.map_nil, List.length_cons, List.length_nil, List.getD_cons_zero, List.getD_cons_succ, List.getD_nil, ite_true, ite_false, Nat.reduceEqDiff, Nat.reduceLT, ne_eq, not_false_eq_true, true_and, Nat.succ_ne_self, decide_true, reduceCtorEq, undefV, ↓s_plFin, ↓s_plTkN, AH.get, vcBuild, fillV, setAt, eq_self, Nat.zero_add, List.drop, and_self, List.getElem?_cons_zero, ldV_f, cl_int, cl_agg, List.set_cons_zero, ↓n_box, Nat.le_refl, n_ldP, n_faP, n_lenL, n_ldA, n_ldB, n_faA, ↓s_plK, undef, vcIface, flT_77_1, flT_77_2, ldT_28, ldT_3, stT_82, elT_28, *]) | (refine acx_dreg mixed (fun _ _ _ _ e h => ⟨e.trans h.1, h.2⟩) _ (SubH.refl _) ?_) | (refine allNew_intro fun zr zh => ?_; have zg := zh; (try simp only [AH.set_none] at zg)) | (with_reducible refine And.intro ?_ ?_)))
    · exact notI82
    · show retPost Try.prog [.tmp 4] K (.panic (stopE 8)) _ _
      exact ⟨rfl, H, by repeat (first | assumption | exact SubH.refl _ | refine SubH.of_set ?_ (by simp only [*])), hFuel hf H hst0⟩
  · by_cases he : (makeF rows made n l).2 = 0
    · have hft := makeF_ok (rows := rows) (l := l) hmade he
      have hab := absurd41 (makeF rows made n l).1 (by rw [hft.1]; omega)
      (repeat' (first | (refine acx_dreg mixed (fun _ _ _ _ e h => ⟨e.trans h.1, h.2⟩) _ ((hsub.set _ _).set _ _) ?_) | (refine (hsub.set _ _).set _ _) | (refine (make47 (d := s) (sp := 0) (rows := rows) (made := made) (mv := mv) (rest := [.lit (.slice la ls.length lc), iV most, .lit (.map (some mp))]) (e := 77) (l := l) (n := n) ?_ ?_ hrows hmade hn).use ?_) | (simp only [↓s_skip, ↓s_reg, ↓s_seq, ↓s_cond, ↓s_condF, ↓s_dreg, ↓s_nil, ↓s_consN, ↓s_thenN, ↓s_kret, ↓s_putS, ↓s_putN, ↓s_dOkS, ↓s_dOkN, ↓s_ev_t, ↓s_ev_c, ↓s_ev_f, ↓s_upd, ↓s_move, ↓s_assign, ↓s_load, ↓s_store, ↓s_nilCheck, ↓s_bin, ↓s_alloc, ↓s_box, ↓s_buildSlice, ↓s_fieldAddr, ↓s_extract, ↓s_callB, ↓s_callV, ↓s_callL, ↓s_len, ↓s_append, ↓s_bin_eql, ↓s_bin_neq, vcNil, vcExtract, ptrV, intV, List.map_cons, List.map_nil, List.length_cons, List.length_nil, List.getD_cons_zero, List.getD_cons_succ, List.getD_nil, List.append_nil, ite_true, ite_false, Nat.reduceEqDiff, Nat.reduceLT, Nat.reduceAdd, Nat.reduceMul, Nat.reduceLeDiff, ne_eq, not_false_eq_true, true_and, Nat.succ_ne_self, decide_true, decide_false, Bool.not_true, reduceCtorEq, undefV, ↓s_plFin, ↓s_plTkN, ↓s_plOneN, ↓s_plTwo, AH.get, AH.set_set, fillV, setAt, List.all_cons, List.all_nil, Bool.and_self, eq_self, Nat.zero_add, Nat.add_zero, List.drop, and_self, List.getElem?_cons_zero, List.getElem?_cons_succ, ldV_f, ldV_t2, ldV_t5, on_int, cl_agg, on_slice, List.set_cons_zero, List.set_cons_succ, ↓n_alloc, n_allocS, ↓n_box, Nat.le_refl, n_ldP, n_faP, n_lenL, n_ldA, n_ldB, n_faA, n_stP, n_stA, ↓s_plK, ↓s_oneK, undef, Int.reduceEq, vcBuildSlice, List.replicate_succ, List.replicate_zero, List.flatten_cons, List.flatten_nil, makeX, flT_77_1, flT_77_2, flT_77_0, flT_74_2, ldT_28, ldT_3, ldT_52, ldT_31, ldT_50, szT_50, zeroT_52, zeroT_50, elT_28, elT_31, en_47, *]) | (refine acx_dreg mixed (fun _ _ _ _ e h => ⟨e.trans h.1, h.2⟩) _ (SubH.refl _) ?_) | (refine And.intro (SubH.new (by assumption)) ?_) | (refine allNew_intro fun zr zh => ?_; have zg := zh; (try simp only [AH.set_none] at zg)) | (exact SubH.refl _) | (with_reducible refine And.intro ?_ ?_)))
      any_goals exact hM.mono (by repeat (first | assumption | exact SubH.refl _ | refine SubH.of_set ?_ (by simp only [*])))
      all_goals
        refine append_own elT_28 zeroT_52 rfl (by omega) ((ho2.alloc (by assumption) _).alloc (by assumption) _) rfl rfl (by omega) (by omega) (fun lv' H1 ho3 => ?_)
        obtain ⟨la2, lc2, rfl⟩ := ho3.form
        obtain ⟨Hx, ho4r, ho5⟩ := ((ho1.alloc (ho2.sub.none (by assumption)) _).alloc ((ho2.sub.set _ _).none (by assumption)) _).swap ho3
        have c5 := ho4r.sub.trans ho5.sub
        obtain ⟨Hs2, c1, c2, c3, ho4⟩ : ∃ Hs2, SubH B Hs2 ∧ Hs2 s = some (.cells 77 [rowsV rows, iV n, mv, .lit (.slice la ls.length lc), iV most, .lit (.map (some mp))] 0) ∧ Hs2 mp = some (.map (keysOf Try.prog 75) km) ∧ OwnX Hs2 Hx 52 5 (.lit (.slice la2 (ls.length + 1) lc2)) (ls.length + 1) (encC lineE ls ++ lineE l) :=
          ⟨_, SubH.of_set (SubH.of_set hB (hBn _ (by simp only [*]))) (hBn _ (by simp only [*])), by simp only [AH.get, *, if_false], by simp only [AH.get, *, if_false], ho4r⟩
        clear ho3
        have c6 := ho4.cells.1
        have c7 := ho4.cells.2
        have kd1 := (ho4.sub.trans ho5.sub) _ _ c2
        (repeat' (first | (simp only [↓s_kret, ↓s_putS, ↓s_dOkS, ↓s_ev_t, ↓s_upd, ↓s_buildSlice, ↓s_callB, ↓s_append, List.map_cons, List.map_nil, List.length_cons, List.length_nil, List.getD_cons_succ, List.getD_nil, List.append_nil, ite_true, ite_false, Nat.reduceEqDiff, Nat.reduceLT, Nat.reduceAdd, Nat.reduceMul, Nat.reduceLeDiff, true_and, Nat.succ_ne_self, ↓s_plOneN, fillV, setAt, eq_self, Nat.zero_add, and_self, cl_agg, List.set_cons_zero, List.set_cons_succ, Nat.le_refl, ↓s_oneK, vcBuildSlice, List.replicate_succ, List.replicate_zero, List.flatten_cons, List.flatten_nil, zeroT_50, elT_31, *])))
        refine append_own elT_31 zeroT_50 rfl (by omega) ho5 rfl rfl (by omega) (by omega) (fun mv' H2 ho6 => ?_)
        have c8 := ho6.cells.1
        have c9 := ho6.cells.2
        have kd2 := (ho4.sub.trans ho6.sub) _ _ c2
        have c10 := ho4r.sub.trans ho6.sub
        have kz := c10 _ _ (AH.set_same _ _ _)
        have hfin : RefSt B (H2.set s (.cells 77 [rowsV rows, iV n, mv', .lit (.slice la2 (ls.length + 1) lc2), iV most, .lit (.map (some mp))] 0)) s mp rows n most (made ++ [(makeF rows made n l).1]) (ls ++ [l]) km := by
          obtain ⟨Hy, h7, h8⟩ := (ho4.put c2 (.cells 77 [rowsV rows, iV n, mv', .lit (.slice la2 (ls.length + 1) lc2), iV most, .lit (.map (some mp))] 0)).swap (ho6.put (ho4.sub _ _ c2) (.cells 77 [rowsV rows, iV n, mv', .lit (.slice la2 (ls.length + 1) lc2), iV most, .lit (.map (some mp))] 0))
          refine ⟨mv', .lit (.slice la2 (ls.length + 1) lc2), Hs2.set s (.cells 77 [rowsV rows, iV n, mv', .lit (.slice la2 (ls.length + 1) lc2), iV most, .lit (.map (some mp))] 0), Hy, b1, b2, b3, c1.of_set b1, AH.set_same _ _ _, by rw [AH.get, if_neg (Ne.symm b3)]; exact c3, ?_, ?_⟩
          · rw [encC_snoc, List.length_append]; exact h7
          · rw [encC_snoc, List.length_append]; exact h8
        have hwr : IntKind.i64.wrap (((ls.length + 1 : Nat) : Int) - 1) = ls.length := by rw [wrap_ok (by omega) (by omega)]; omega
        (repeat' (first | (simp only [↓s_skip, ↓s_reg, ↓s_seq, ↓s_cond, ↓s_ret, ↓s_nil, ↓s_consN, ↓s_thenN, ↓s_thenP, ↓s_kret, ↓s_putS, ↓s_putN, ↓s_dOkS, ↓s_dOkN, ↓s_ev_t, ↓s_ev_c, ↓s_ev_f, ↓s_upd, ↓s_move, ↓s_assign, ↓s_load, ↓s_store, ↓s_nilCheck, ↓s_bin, ↓s_mkIface, ↓s_build, ↓s_fieldAddr, ↓s_callB, ↓s_callV, ↓s_panic, ↓s_callL, ↓s_len, ↓s_bin_sub, vcNil, vcIface, intV, boolV, List.map_cons, List.map_nil, List.length_cons, List.length_nil, List.getD_cons_zero, List.getD_cons_succ, List.getD_nil, ite_true, ite_false, Nat.reduceEqDiff, Nat.reduceLT, Nat.reduceAdd, Nat.reduceLeDiff, ne_eq, not_false_eq_true, true_and, Nat.succ_ne_self, reduceCtorEq, ↓s_plFin, ↓s_plTkN, AH.get, AH.set_set, vcBuild, fillV, setAt, List.all_cons, List.all_nil, Bool.and_self, eq_self, Nat.zero_add, Nat.add_zero, List.drop, ldV_f, ldV_t2, List.set_cons_zero, List.set_cons_succ, n_ldP, n_faP, n_lenL, n_ldA, n_ldB, n_faA, n_stP, n_stA, ↓s_plK, ↓s_cutK, ↓s_plCutN, ↓s_oneK, vcIface, flT_77_1, flT_77_0, flT_74_2, ldT_28, ldT_50, szT_28, szT_31, stT_79, elT_28, en_41, *]) | (refine condL_split ?_ ?_ <;> intro) | (refine ret_tmp ?_) | assumption | (refine PureF.use (hab) ?_) | (with_reducible refine And.intro ?_ ?_)))
        all_goals first
          | exact notI79
          | exact hOk hf he (by assumption) _ hfin
          | (show retPost Try.prog [.tmp 4] K (.panic foundE) _ _; exact ⟨rfl, _, SubH.refl _, hFound hf he (by assumption) _ hfin⟩)
    · have hg : ∀ ch, K (.pan ch) H → ∃ H', SubH H' H ∧ K (.pan ch) H' := fun ch h => ⟨H, SubH.refl _, h⟩
      have hE := hErr hf he H hst0
      (repeat' (first | (refine (make47 (d := s) (sp := 0) (rows := rows) (made := made) (mv := mv) (rest := [.lit (.slice la ls.length lc), iV most, .lit (.map (some mp))]) (e := 77) (l := l) (n := n) ?_ ?_ hrows hmade hn).use ?_) | (simp only [↓s_skip, ↓s_reg, ↓s_seq, ↓s_cond, ↓s_condT, ↓s_condF, ↓s_dreg, ↓s_nil, ↓s_consN, ↓s_thenN, ↓s_thenP, ↓s_kret, ↓s_putS, ↓s_putN, ↓s_dOkS, ↓s_dOkN, ↓s_ev_t, ↓s_ev_c, ↓s_ev_f, ↓s_upd, ↓s_move, ↓s_assign, ↓s_load, ↓s_store, ↓s_nilCheck, ↓s_bin, ↓s_mkIface, ↓s_alloc, ↓s_box, ↓s_build, ↓s_fieldAddr, ↓s_extract, ↓s_callB, ↓s_callV, ↓s_panic, ↓s_callL, ↓s_len, ↓s_bin_eql, ↓s_bin_neq, vcNil, vcIface, vcExtract, ptrV, intV, List.map_cons, List.map_nil, List.length_cons, List.length_nil, List.getD_cons_zero, List.getD_cons_succ, List.getD_nil, ite_true, ite_false, Nat.reduceEqDiff, Nat.reduceLT, Nat.reduceAdd, ne_eq, not_false_eq_true, true_and, Nat.succ_ne_self, decide_true, decide_false, Bool.not_false, reduceCtorEq, undefV, ↓s_plFin, ↓s_plTkN, ↓s_plOneN, ↓s_plTwo, AH.get, AH.set_set, vcBuild, fillV, setAt, List.all_cons, List.all_nil, Bool.and_self, eq_self, Nat.zero_add, Nat.add_zero, List.drop, and_self, List.getElem?_cons_zero, List.getElem?_cons_succ, ldV_f, ldV_t5, cl_int, on_int, cl_agg, on_slice, List.set_cons_zero, List.set_cons_succ, ↓n_alloc, n_allocS, ↓n_box, Nat.le_refl, n_ldP, n_faP, n_lenL, n_ldA, n_ldB, n_faA, n_stP, n_stA, ↓s_plK, ↓s_oneK, undef, Int.reduceEq, makeX, vcIface, flT_77_1, flT_77_2, flT_77_0, ldT_28, ldT_3, ldT_52, szT_50, stT_82, zeroT_50, elT_28, en_47, *]) | (refine condL_splitD ?_ ?_ <;> intro) | (refine acx_dreg mixed (fun _ _ _ _ e h => ⟨e.trans h.1, h.2⟩) _ (SubH.refl _) ?_) | (refine And.intro (SubH.new (by assumption)) ?_) | (refine allNew_intro fun zr zh => ?_; have zg := zh; (try simp only [AH.set_none] at zg)) | (exact SubH.refl _) | (with_reducible refine And.intro ?_ ?_)))
      any_goals exact hM.mono (by repeat (first | assumption | exact SubH.refl _ | refine SubH.of_set ?_ (by simp only [*])))
      any_goals exact notI82
      all_goals first
        | (have h2 : (makeF rows made n l).2 = 260 := by assumption
           rw [if_pos h2] at hE
           show retPost Try.prog [.tmp 4] K (.panic (stopE 7)) _ _
           exact ⟨rfl, H, by repeat (first | assumption | exact SubH.refl _ | refine SubH.of_set ?_ (by simp only [*])), hE⟩)
        | (have h2 : ¬ (makeF rows made n l).2 = 260 := by assumption
           rw [if_neg h2] at hE
           show retPost Try.prog [.tmp 4] K (.panic (stopE (makeF rows made n l).2)) _ _
           exact ⟨rfl, H, by repeat (first | assumption | exact SubH.refl _ | refine SubH.of_set ?_ (by simp only [*])), hE⟩)
end Go.PV.Ytefpjfpelicedaa
end
section
/- The search's steps asg functions; keeping a line. -/
set_option linter.unusedVariables false
set_option linter.unusedSimpArgs false
set_option maxRecDepth 20000
set_option maxHeartbeats 4000000
namespace Go.PV.Ytefpjfpelicedaa
open Go Go.Proofs
inductive Out where
  | stop (c : Int)
  | found
structure RS where
  made : List Row
  ls : List Line
  known : List (List Int × Int)
abbrev Res := Except (Out × RS) (Int × RS)
def lineS (rows : List Row) (n : Nat) (most : Int) (s : RS) (l : Line) : Res :=
  if (s.ls.length : Int) = most then .error (.stop 8, s)
  else if (makeF rows s.made n l).2 = 0 then
    (if absurdF (makeF rows s.made n l).1 = true then .error (.found, ⟨s.made ++ [(makeF rows s.made n l).1], s.ls ++ [l], s.known⟩)
     else .ok (s.ls.length, ⟨s.made ++ [(makeF rows s.made n l).1], s.ls ++ [l], s.known⟩))
  else .error (.stop (if (makeF rows s.made n l).2 = 260 then 7 else (makeF rows s.made n l).2), s)
/-- What is known of a row's key. -/
def keyAt (known : List (List Int × Int)) (k : List Int) : Option Int := (known.find? fun p => p.1 = k).map (·.2)
def keep2 (s : RS) (a : Int) : Int × RS :=
  match keyAt s.known (keyL (rowAt s.made a)) with
  | some old => if (rowAt s.made old).b ≤ (rowAt s.made a).b then (-1, s) else (a, ⟨s.made, s.ls, (keyL (rowAt s.made a), a) :: s.known⟩)
  | none => (a, ⟨s.made, s.ls, (keyL (rowAt s.made a), a) :: s.known⟩)
def keepS (rows : List Row) (n : Nat) (most : Int) (s : RS) (l : Line) : Res :=
  match lineS rows n most s l with
  | .error e => .error e
  | .ok (a, s1) =>
    if commonF (rowAt s1.made a) = 0 then .ok (-1, s1)
    else if 1 < commonF (rowAt s1.made a) ∧ commonF (rowAt s1.made a) ≤ 1000000 then
      (match lineS rows n most s1 ⟨4, a, 0, commonF (rowAt s1.made a), 0⟩ with
       | .error e => .error e
       | .ok (a2, s2) => .ok (keep2 s2 a2))
    else .ok (keep2 s1 a)
noncomputable def kmOf : List (List Int × Int) → Value → Option VV
  | [] => fun _ => none
  | p :: l => mset (kmOf l) (.agg (p.1.map (Value.int .i64)).toArray) (iV p.2)
structure OkS (n : Nat) (most : Int) (s : RS) : Prop where
  fits : ∀ r ∈ s.made, Fits n r
  len : s.made.length = s.ls.length
  le : (s.ls.length : Int) ≤ most
  kn : ∀ p ∈ s.known, 0 ≤ p.2 ∧ p.2 < (s.made.length : Int)
def RefS (B H : AH) (s mp : Nat) (rows : List Row) (n : Nat) (most : Int) (st : RS) : Prop := RefSt B H s mp rows n most st.made st.ls (kmOf st.known)
/-- What is owed at an outcome. -/
def PostS (B : AH) (s mp : Nat) (rows : List Row) (n : Nat) (most : Int) (K : VE → AH → Prop) : Res → Prop
  | .error (.stop c, st) => ∀ H', RefS B H' s mp rows n most st → K (.pan (stopE c)) H'
  | .error (.found, st) => ∀ H', RefS B H' s mp rows n most st → K (.pan foundE) H'
  | .ok (v, st) => ∀ H', RefS B H' s mp rows n most st → K (.ret (iV v)) H'
section
variable {rows : List Row} {n : Nat} {most : Int} {s : RS} {l : Line}
theorem lineS_fuel (h1 : (s.ls.length : Int) = most) : lineS rows n most s l = .error (.stop 8, s) := by unfold lineS; rw [if_pos h1]
theorem lineS_err (h1 : ¬ (s.ls.length : Int) = most) (h2 : ¬ (makeF rows s.made n l).2 = 0) : lineS rows n most s l = .error (.stop (if (makeF rows s.made n l).2 = 260 then 7 else (makeF rows s.made n l).2), s) := by unfold lineS; rw [if_neg h1, if_neg h2]
theorem lineS_found (h1 : ¬ (s.ls.length : Int) = most) (h2 : (makeF rows s.made n l).2 = 0) (h3 : absurdF (makeF rows s.made n l).1 = true) : lineS rows n most s l = .error (.found, ⟨s.made ++ [(makeF rows s.made n l).1], s.ls ++ [l], s.known⟩) := by unfold lineS; rw [if_neg h1, if_pos h2, if_pos h3]
theorem lineS_val (h1 : ¬ (s.ls.length : Int) = most) (h2 : (makeF rows s.made n l).2 = 0) (h3 : absurdF (makeF rows s.made n l).1 = false) : lineS rows n most s l = .ok (s.ls.length, ⟨s.made ++ [(makeF rows s.made n l).1], s.ls ++ [l], s.known⟩) := by unfold lineS; rw [if_neg h1, if_pos h2, if_neg (by simp [h3])]
end
theorem lineS_ok {rows : List Row} {n : Nat} {most : Int} {s : RS} {l : Line} (h : OkS n most s) : match lineS rows n most s l with
    | .error (_, s') => OkS n most s'
    | .ok (a, s') => OkS n most s' ∧ 0 ≤ a ∧ a < (s'.made.length : Int) := by
  have key : ¬ (s.ls.length : Int) = most → (makeF rows s.made n l).2 = 0 → OkS n most ⟨s.made ++ [(makeF rows s.made n l).1], s.ls ++ [l], s.known⟩ := fun h1 h2 => by
    refine ⟨?_, by simp [h.len], by have := h.le; simp; omega, ?_⟩
    · intro r hr
      rcases List.mem_append.1 hr with hr | hr
      · exact h.fits r hr
      · rw [List.mem_singleton.1 hr]; exact makeF_ok h.fits h2
    · intro p hp
      have := h.kn p hp
      simp; omega
  by_cases h1 : (s.ls.length : Int) = most
  · rw [lineS_fuel h1]; exact h
  by_cases h2 : (makeF rows s.made n l).2 = 0
  · by_cases h3 : absurdF (makeF rows s.made n l).1 = true
    · rw [lineS_found h1 h2 h3]; exact key h1 h2
    · rw [lineS_val h1 h2 (by simpa using h3)]
      refine ⟨key h1 h2, by omega, ?_⟩
      have := h.len
      simp; omega
  · rw [lineS_err h1 h2]; exact h
theorem line74S {B H : AH} {s mp : Nat} {rows : List Row} {n : Nat} {most : Int} {st : RS} {l : Line} {K : VE → AH → Prop} (hst : RefS B H s mp rows n most st) (hok : OkS n most st) (hm : most ≤ 5000)
    (hrows : ∀ r ∈ rows, r.c.length ≤ n) (hn : (n : Int) ≤ 1000) (h : PostS B s mp rows n most K (lineS rows n most st l)) : VCalls Try.prog 74 [ptrV s 0, lineV l] H K := by
  refine line74 hst hrows hok.fits hn hok.len (by have := hok.le; omega) ?_ ?_ ?_ ?_
  · intro h1; rw [lineS_fuel h1] at h; exact h
  · intro h1 h2; rw [lineS_err h1 h2] at h; exact h
  · intro h1 h2 h3; rw [lineS_found h1 h2 h3] at h; exact h
  · intro h1 h2 h3; rw [lineS_val h1 h2 h3] at h; exact h
theorem RefS.alloc {B H : AH} {s mp : Nat} {rows : List Row} {n : Nat} {most : Int} {st : RS} {r : Nat} (h : RefS B H s mp rows n most st) (hr : H r = none) (b : Blk) : RefS B (H.set r b) s mp rows n most st := by
  obtain ⟨mv, lv, Hs, Hm, b1, b2, b3, hB, ks, km', ho1, ho2⟩ := h
  have hr1 := ho2.sub.none hr
  have hr2 := ho1.sub.none hr1
  refine ⟨mv, lv, Hs.set r b, Hm.set r b, b1, b2, b3, hB.of_set (hB.none hr2), ?_, ?_, ho1.alloc hr1 b, ho2.alloc hr b⟩
  · rw [AH.get, if_neg (AH.ne_of ks hr2).1]; exact ks
  · rw [AH.get, if_neg (AH.ne_of km' hr2).1]; exact km'
/-- What may be read of the state. -/
theorem RefS.view {B H : AH} {s mp : Nat} {rows : List Row} {n : Nat} {most : Int} {st : RS} (h : RefS B H s mp rows n most st) :
    ∃ a c la lc, H s = some (.cells 77 [rowsV rows, iV n, .lit (.slice a st.made.length c), .lit (.slice la st.ls.length lc), iV most, .lit (.map (some mp))] 0) ∧ H mp = some (.map (keysOf Try.prog 75) (kmOf st.known)) ∧ SubH B H ∧
      (st.made ≠ [] → ∃ g sp, a = some ⟨g, 0, none⟩ ∧ H g = some (.cells 50 (encC rowE st.made) sp)) := by
  obtain ⟨mv, lv, Hs, Hm, b1, b2, b3, hB, ks, km', ho1, ho2⟩ := h
  obtain ⟨la, lc, rfl⟩ := ho2.form
  have hsub := ho1.sub.trans ho2.sub
  rcases ho1 with ⟨rfl, h1, h2, rfl⟩ | ⟨g, c, sp, rfl, h0, rfl, h1⟩
  · refine ⟨none, 0, la, lc, ?_, hsub _ _ km', hB.trans hsub, fun hne => absurd (List.eq_nil_of_length_eq_zero h1) hne⟩
    rw [h1]; exact hsub _ _ ks
  · exact ⟨_, c, la, lc, hsub _ _ ks, hsub _ _ km', hB.trans hsub, fun _ => ⟨g, sp, rfl, ho2.sub _ _ (AH.set_same _ _ _)⟩⟩
end Go.PV.Ytefpjfpelicedaa
end
section
/- The map from keys of rows to lines. -/
set_option linter.unusedVariables false
set_option linter.unusedSimpArgs false
set_option maxRecDepth 20000
set_option maxHeartbeats 4000000
namespace Go.PV.Ytefpjfpelicedaa
open Go Go.Proofs Go.Maps
theorem keyed118 : Keyed Try.prog 118 := Keyed.of_law (deep_law_laid (m := 3) (by kernel_rfl) (by omega) (Nat.le_of_ble_eq_true (by kernel_rfl)) (by kernel_rfl) (by kernel_rfl))
theorem und118 : Program.underlying Try.prog 118 = some (.array 12 3) := by kernel_rfl
theorem und3 : Program.underlying Try.prog 3 = some (.int .i64) := by kernel_rfl
theorem und75 : Program.underlying Try.prog 75 = some (.map 118 3) := by kernel_rfl
theorem cells118 : Program.cellsOf Try.prog 118 = 12 := by kernel_rfl
theorem cells3 : Program.cellsOf Try.prog 3 = 1 := by kernel_rfl
theorem kt118 : Program.keyType Try.prog 118 = true := by kernel_rfl
theorem mapT75 : MapT Try.prog 75 (.int .i64 0) := ⟨118, 3, und75, keyed118, by kernel_rfl⟩
def keyVal (k : List Int) : Value := .agg (k.map (Value.int .i64)).toArray
def W64 (k : List Int) : Prop := ∀ c ∈ k, -9223372036854775808 ≤ c ∧ c ≤ 9223372036854775807
theorem mapM_some {α β : Type} (f : α → Option β) : ∀ (l : List α), (∀ x ∈ l, ∃ y, f x = some y) → ∃ ys, l.mapM f = some ys
  | [], _ => ⟨[], rfl⟩
  | x :: l, h => by
    obtain ⟨y, hy⟩ := h x (List.mem_cons_self ..)
    obtain ⟨ys, hys⟩ := mapM_some f l fun z hz => h z (List.mem_cons_of_mem _ hz)
    exact ⟨y :: ys, by simp [List.mapM_cons, hy, hys]⟩
theorem wf64 {c : Int} (h : -9223372036854775808 ≤ c ∧ c ≤ 9223372036854775807) : (Lit.int .i64 c).wf = true := by
  have := wrap_ok h.1 h.2
  simp only [Lit.wf, Bool.and_eq_true, decide_eq_true_eq]
  exact h
theorem keys75 {k : List Int} (hl : k.length = 12) (hw : W64 k) : keysOf Try.prog 75 (keyVal k) := by
  obtain ⟨d, hd⟩ : ∃ d, Try.prog.types.size = d + 1 := ⟨Try.prog.types.size - 1, by kernel_rfl⟩
  refine ⟨118, 3, ?_⟩
  unfold keyOf
  rw [und118]
  have hf : (keyVal k).formed Try.prog 118 = true := by
    simp [keyVal, Value.formed, und118, cells118, hl]
  simp only [kt118, hf, Bool.and_self, if_true]
  have hc : (keyVal k).cells.toList = k.map (Value.int .i64) := by simp [keyVal, Value.cells]
  rw [hc]
  have : ∃ ls, Program.keyLits Try.prog (Try.prog.types.size + 1) 118 (k.map (Value.int .i64)) = some ls := by
    simp only [Program.keyLits, und118, cells118, List.length_map, hl, if_true, cells3, Nat.mul_one]
    obtain ⟨ys, hys⟩ := mapM_some (fun i => Program.keyLits Try.prog Try.prog.types.size 3 (((k.map (Value.int .i64)).drop i).take 1)) (List.range 12) fun i hi => by
      have hi := List.mem_range.1 hi
      have hik : i < k.length := by omega
      rw [List.drop_eq_getElem_cons (by simpa using hik)]
      simp only [List.getElem_map, List.take_succ_cons, List.take_zero]
      rw [hd]
      simp only [Program.keyLits, und3]
      rw [if_pos ⟨by trivial, wf64 (hw _ (List.getElem_mem _))⟩]
      exact ⟨_, rfl⟩
    rw [hys]; exact ⟨_, rfl⟩
  obtain ⟨ls, hls⟩ := this
  rw [hls]
  exact ⟨_, und75, rfl⟩
theorem lit_key (k : List Int) : litVal (.agg (encC intE k)) = some (keyVal k) := by
  have : litCells (.agg (encC intE k)) = some (k.map (Value.int .i64)) := by
    unfold litCells
    induction k with
    | nil => rfl
    | cons x k ih =>
      rw [encC_cons]
      simp only [List.cons_append, List.nil_append, List.mapM_cons, List.map_cons] at ih ⊢
      rw [ih]; rfl
  simp only [litVal, this, Option.map_some, keyVal]
theorem keyVal_inj {k k' : List Int} (h : keyVal k = keyVal k') : k = k' := by
  simp only [keyVal, Value.agg.injEq, Array.mk.injEq, List.toArray_inj] at h
  exact (List.map_inj_right (fun a b hab => by simpa using hab)).1 h
theorem kmOf_at (kn : List (List Int × Int)) (k : List Int) : kmOf kn (keyVal k) = (keyAt kn k).map iV := by
  induction kn with
  | nil => rfl
  | cons p l ih =>
    by_cases h : k = p.1
    · subst h
      simp only [kmOf, keyAt, List.find?_cons, decide_true, Option.map_some]
      exact mset_same _ _ _
    · have h2 : keyVal k ≠ keyVal p.1 := fun e => h (keyVal_inj e)
      have h3 : ¬ p.1 = k := fun e => h e.symm
      simp only [kmOf, keyAt, List.find?_cons, h3, decide_false] at ih ⊢
      rw [← ih]
      exact mset_ne _ _ h2
section
variable {H : AH} {K : VE → AH → Prop} {mp : Nat} {kn : List (List Int × Int)} {k : List Int}
theorem lookup75 (ok : Bool) (hm : H mp = some (.map (keysOf Try.prog 75) (kmOf kn))) (hl : k.length = 12) (hw : W64 k) (h : K (.ret (match keyAt kn k with | some v => okV ok (iV v) true | none => okV ok (iV 0) false)) H) :
    vcLookup Try.prog 75 (.lit (.map (some mp))) (.agg (encC intE k)) ok H K := by
  refine ⟨_, mapT75, _, lit_key k, keys75 hl hw, ?_⟩
  simp only [hm]
  refine ⟨fun _ h => h, ?_⟩
  rw [kmOf_at]
  revert h
  cases keyAt kn k <;> exact id
theorem update75 (v : Int) (hm : H mp = some (.map (keysOf Try.prog 75) (kmOf kn))) (hl : k.length = 12) (hw : W64 k) (h : K (.ret undefV) (H.set mp (.map (keysOf Try.prog 75) (kmOf ((k, v) :: kn))))) :
    vcUpdate Try.prog 75 (.lit (.map (some mp))) (.agg (encC intE k)) (iV v) H K := by
  refine ⟨_, mapT75, _, lit_key k, keys75 hl hw, ?_⟩
  simp only [hm]
  exact ⟨fun _ h => h, keys75 hl hw, h⟩
end
end Go.PV.Ytefpjfpelicedaa
end
section
/- Code with names for what stands behind blocks: made by cut.py. -/
set_option maxRecDepth 100000
namespace Go.PV.Ytefpjfpelicedaa
open Go Go.Proofs
def d58_1 : ACode := (.seq (.reg [⟨some 37, (.move (.tmp 0)), none⟩,
  ⟨some 38, (.nilCheck (.tmp 37)), none⟩,
  ⟨some 39, (.fieldAddr 77 (.tmp 38) 0), none⟩,
  ⟨some 40, (.fieldAddr 74 (.tmp 39) 2), none⟩,
  ⟨some 41, (.load 31 (.tmp 40)), none⟩,
  ⟨some 42, (.move (.tmp 5)), none⟩,
  ⟨some 43, (.indexAddr 31 (.tmp 41) (.tmp 42)), none⟩,
  ⟨some 44, (.load 50 (.tmp 43)), none⟩,
  ⟨some 7, (.alloc 50), none⟩,
  ⟨none, (.store 50 (.tmp 7) (.tmp 44)), none⟩])
 (.seq (.seq (.dreg (.tk ⟨some 46, (.move (.tmp 0)), none⟩
  (.tk ⟨some 47, (.nilCheck (.tmp 46)), none⟩
  (.tk ⟨some 48, (.fieldAddr 77 (.tmp 47) 3), none⟩
  (.tk ⟨some 49, (.load 75 (.tmp 48)), none⟩
  (.tk ⟨some 50, (.load 50 (.tmp 7)), none⟩
  (.one ⟨some 51, (.call { callee := (.value (.func 75)), args := #[(.tmp 50)], argTypes := #[50] }), none⟩
  (.one ⟨some 52, (.lookup 75 (.tmp 49) (.tmp 51) true), none⟩
  (.tk ⟨some 45, (.move (.tmp 52)), none⟩
  (.tk ⟨some 53, (.extract (.tmp 45) 0), none⟩
  (.tk ⟨some 54, (.extract (.tmp 45) 1), none⟩
  (.tk ⟨some 8, (.assign (.tmp 53)), none⟩
  .fin))))))))))) [⟨some 9, (.assign (.tmp 54)), none⟩])
 (.seq (.dreg (.tk ⟨some 55, (.move (.tmp 9)), none⟩
  (.tk ⟨some 56, (.move (.tmp 55)), none⟩
  (.tk ⟨some 57, (.move (.tmp 0)), some (56, true)⟩
  (.tk ⟨some 58, (.nilCheck (.tmp 57)), some (56, true)⟩
  (.tk ⟨some 59, (.fieldAddr 77 (.tmp 58) 0), some (56, true)⟩
  (.tk ⟨some 60, (.fieldAddr 74 (.tmp 59) 2), some (56, true)⟩
  (.tk ⟨some 61, (.load 31 (.tmp 60)), some (56, true)⟩
  (.tk ⟨some 62, (.move (.tmp 8)), some (56, true)⟩
  (.tk ⟨some 63, (.indexAddr 31 (.tmp 61) (.tmp 62)), some (56, true)⟩
  (.tk ⟨some 64, (.fieldAddr 50 (.tmp 63) 1), some (56, true)⟩
  (.tk ⟨some 65, (.load 3 (.tmp 64)), some (56, true)⟩
  (.tk ⟨some 66, (.fieldAddr 50 (.tmp 7) 1), some (56, true)⟩
  (.tk ⟨some 67, (.load 3 (.tmp 66)), some (56, true)⟩
  .fin))))))))))))) [⟨some 68, (.binOp .leq 3 (.tmp 65) (.tmp 67) 3), some (56, true)⟩,
  ⟨some 69, (.pick (.tmp 56) (.tmp 68) (.const (.bool false))), none⟩])
 (.cond (.tmp 69) (.seq (.reg [⟨some 4, (.assign (.const (.int .i64 (-1)))), none⟩])
 .ret) .skip)))
 (.seq (.dreg (.tk ⟨some 70, (.move (.tmp 0)), none⟩
  (.tk ⟨some 71, (.nilCheck (.tmp 70)), none⟩
  (.tk ⟨some 72, (.fieldAddr 77 (.tmp 71) 3), none⟩
  (.tk ⟨some 73, (.load 75 (.tmp 72)), none⟩
  (.tk ⟨some 74, (.load 50 (.tmp 7)), none⟩
  (.tk ⟨some 76, (.move (.tmp 5)), none⟩
  (.one ⟨some 75, (.call { callee := (.value (.func 75)), args := #[(.tmp 74)], argTypes := #[50] }), none⟩
  .fin))))))) [⟨none, (.mapUpdate 75 (.tmp 73) (.tmp 75) (.tmp 76)), none⟩])
 (.seq (.reg [⟨some 77, (.move (.tmp 5)), none⟩,
  ⟨some 4, (.assign (.tmp 77)), none⟩])
 .ret))))
def e58 : ACode := (.seq (.reg [⟨some 3, (.box 52 (.tmp 1)), none⟩,
  ⟨some 4, (.assign (.const (.int .i64 0))), none⟩])
 (.seq (.reg [⟨some 10, (.move (.tmp 0)), none⟩,
  ⟨some 11, (.load 52 (.tmp 3)), none⟩,
  ⟨some 12, (.call { callee := (.value (.func 74)), args := #[(.tmp 10), (.tmp 11)], argTypes := #[71, 52] }), none⟩,
  ⟨some 5, (.assign (.tmp 12)), none⟩])
 (.seq (.seq (.reg [⟨some 13, (.move (.tmp 0)), none⟩,
  ⟨some 14, (.nilCheck (.tmp 13)), none⟩,
  ⟨some 15, (.fieldAddr 77 (.tmp 14) 0), none⟩,
  ⟨some 16, (.fieldAddr 74 (.tmp 15) 2), none⟩,
  ⟨some 17, (.load 31 (.tmp 16)), none⟩,
  ⟨some 18, (.move (.tmp 5)), none⟩,
  ⟨some 19, (.indexAddr 31 (.tmp 17) (.tmp 18)), none⟩,
  ⟨some 20, (.load 50 (.tmp 19)), none⟩,
  ⟨some 21, (.call { callee := (.value (.func 62)), args := #[(.tmp 20)], argTypes := #[50] }), none⟩,
  ⟨some 6, (.assign (.tmp 21)), none⟩])
 (.block 0 (.seq (.reg [⟨some 23, (.move (.tmp 6)), none⟩,
  ⟨some 24, (.binOp .eql 3 (.tmp 23) (.const (.int .i64 0)) 3), none⟩,
  ⟨some 22, (.assign (.tmp 24)), none⟩])
 (.cond (.tmp 22) (.seq (.reg [⟨some 4, (.assign (.const (.int .i64 (-1)))), none⟩])
 .ret) (.seq (.reg [⟨some 26, (.move (.tmp 6)), none⟩,
  ⟨some 27, (.binOp .gtr 3 (.tmp 26) (.const (.int .i64 1)) 3), none⟩,
  ⟨some 28, (.move (.tmp 27)), none⟩,
  ⟨some 29, (.move (.tmp 6)), some (28, true)⟩,
  ⟨some 30, (.binOp .leq 3 (.tmp 29) (.const (.int .i64 1000000)) 3), some (28, true)⟩,
  ⟨some 31, (.pick (.tmp 28) (.tmp 30) (.const (.bool false))), none⟩,
  ⟨some 25, (.assign (.tmp 31)), none⟩])
 (.cond (.tmp 25) (.reg [⟨some 32, (.move (.tmp 0)), none⟩,
  ⟨some 33, (.move (.tmp 5)), none⟩,
  ⟨some 34, (.move (.tmp 6)), none⟩,
  ⟨some 35, (.build 52 #[(0, (.const (.int .i64 4))), (1, (.tmp 33)), (3, (.tmp 34))]), none⟩,
  ⟨some 36, (.call { callee := (.value (.func 74)), args := #[(.tmp 32), (.tmp 35)], argTypes := #[71, 52] }), none⟩,
  ⟨some 5, (.assign (.tmp 36)), none⟩]) .skip)))))) d58_1)))
theorem ce58 : c58 = e58 := rfl
end Go.PV.Ytefpjfpelicedaa
end
section
/- Keeping a line. -/
set_option linter.unusedVariables false
set_option linter.unusedSimpArgs false
set_option maxRecDepth 20000
set_option maxHeartbeats 4000000
namespace Go.PV.Ytefpjfpelicedaa
open Go Go.Proofs
theorem fit_at {n : Nat} {made : List Row} {a : Int} (h : ∀ r ∈ made, Fits n r) (h0 : 0 ≤ a) (h1 : a < (made.length : Int)) : Fits n (rowAt made a) := by
  have hlt : a.toNat < made.length := by omega
  unfold rowAt
  rw [List.getD_eq_getElem?_getD]
  simp only [hlt, List.getElem?_eq_getElem, Option.getD_some]; exact h _ (List.getElem_mem _)
theorem key_w {n : Nat} {r : Row} (h : Fits n r) : W64 (keyL r) := by
  intro c hc
  unfold keyL wideL at hc
  rcases List.mem_append.1 (List.mem_of_mem_take hc) with hc | hc
  · have := h.2.2 c hc
    simp [far2] at this; omega
  · rw [List.eq_of_mem_replicate hc]; omega
theorem rows_dropZ1 {l : List Row} {a : Int} (h0 : 0 ≤ a) (h1 : a < (l.length : Int)) : (encC rowE l).drop (a.toNat * 2 + 1) = iV (rowAt l a).b :: encC rowE (l.drop (a.toNat + 1)) := by
  rw [← List.drop_drop, rows_dropZ h0 h1]; rfl
theorem key_len (r : Row) : (keyL r).length = 12 := wide_len _ _
theorem RefS.put {B H : AH} {s mp : Nat} {rows : List Row} {n : Nat} {most : Int} {st : RS} (h : RefS B H s mp rows n most st) (kn : List (List Int × Int)) : RefS B (H.set mp (.map (keysOf Try.prog 75) (kmOf kn))) s mp rows n most ⟨st.made, st.ls, kn⟩ := by
  obtain ⟨mv, lv, Hs, Hm, b1, b2, b3, hB, ks, km', ho1, ho2⟩ := h
  refine ⟨mv, lv, Hs.set mp (.map (keysOf Try.prog 75) (kmOf kn)), Hm.set mp (.map (keysOf Try.prog 75) (kmOf kn)), b1, b2, b3, hB.of_set b2, ?_, AH.set_same _ _ _, ho1.put km' _, ho2.put (ho1.sub _ _ km') _⟩
  rw [AH.get, if_neg b3]; exact ks
theorem tail58 {B H : AH} {s mp : Nat} {rows : List Row} {n : Nat} {most : Int} {st : RS} {K : VE → AH → Prop} {t : Nat → VV} {a : Int} (hst : RefS B H s mp rows n most st) (hok : OkS n most st) (hm : most ≤ 5000)
    (hn : (n : Int) ≤ 12) (h0 : t 0 = ptrV s 0) (h5 : t 5 = iV a) (ha0 : 0 ≤ a) (ha1 : a < (st.made.length : Int)) (h : ∀ H', RefS B H' s mp rows n most (keep2 st a).2 → K (.ret (iV (keep2 st a).1)) H') :
    vc ⟨Try.prog, 78, none⟩ d58_1 (retPost Try.prog [.tmp 4] K) ⟨t, []⟩ H := by
  obtain ⟨ga, gc, la, lc, k1, km1, hs1, hmade1⟩ := hst.view
  obtain ⟨g1, sp1, rfl, kg1⟩ := hmade1 (fun e => by rw [e] at ha1; simp at ha1; omega)
  have hft := fit_at hok.fits ha0 ha1
  have hk12 : (rowAt st.made a).c.length ≤ 12 := by rw [hft.1]; omega
  have n1 : ∀ r, H r = none → ¬ s = r := fun r hr => (AH.ne_of k1 hr).1
  have n1' : ∀ r, H r = none → ¬ r = s := fun r hr => (AH.ne_of k1 hr).2
  have n2 : ∀ r, H r = none → ¬ mp = r := fun r hr => (AH.ne_of km1 hr).1
  have n2' : ∀ r, H r = none → ¬ r = mp := fun r hr => (AH.ne_of km1 hr).2
  have n3 : ∀ r, H r = none → ¬ g1 = r := fun r hr => (AH.ne_of kg1 hr).1
  have n3' : ∀ r, H r = none → ¬ r = g1 := fun r hr => (AH.ne_of kg1 hr).2
  have hkl := key_len (rowAt st.made a)
  have hkw := key_w hft
  unfold d58_1
  have hnone : keyAt st.known (keyL (rowAt st.made a)) = none → keep2 st a = (a, ⟨st.made, st.ls, (keyL (rowAt st.made a), a) :: st.known⟩) := fun e => by simp only [keep2, e]
  have hsome : ∀ old, keyAt st.known (keyL (rowAt st.made a)) = some old → keep2 st a = if (rowAt st.made old).b ≤ (rowAt st.made a).b then (-1, st) else (a, ⟨st.made, st.ls, (keyL (rowAt st.made a), a) :: st.known⟩) := fun old e => by simp only [keep2, e]
  have hkn : ∀ old, keyAt st.known (keyL (rowAt st.made a)) = some old → 0 ≤ old ∧ old < (st.made.length : Int) := fun old e => by
    simp only [keyAt, Option.map_eq_some_iff] at e
    obtain ⟨p, hp, rfl⟩ := e
    exact hok.kn p (List.mem_of_find?_eq_some hp)
  cases e : keyAt st.known (keyL (rowAt st.made a)) with
  | none =>
    rw [hnone e] at h
    clear hnone hsome hkn
    (repeat' (first | (refine lookup75 (kn := st.known) _ ?_ hkl hkw ?_) | (refine update75 (kn := st.known) _ ?_ hkl hkw ?_) | (simp only [↓s_skip, ↓s_reg, ↓s_seq, ↓s_cond, ↓s_condF, ↓s_ret, ↓s_dreg, ↓s_nil, ↓s_consN, ↓s_consG, ↓s_guardFT, ↓s_thenN, ↓s_kret, ↓s_putS, ↓s_putN, ↓s_dOkS, ↓s_dOkN, ↓s_ev_t, ↓s_ev_c, ↓s_ev_f, ↓s_upd, ↓s_move, ↓s_assign, ↓s_isBool, ↓s_pickA, ↓s_pick, ↓s_load, ↓s_store, ↓s_nilCheck, ↓s_alloc, ↓s_fieldAddr, ↓s_indexAddr, ↓s_lookup, ↓s_mapUpdate, ↓s_extract, ↓s_callV, ↓s_callL, vcNil, vcExtract, ptrV, boolV, List.map_cons, List.map_nil, List.length_cons, List.length_nil, ite_true, ite_false, Nat.reduceEqDiff, Nat.reduceLT, Nat.reduceAdd, ne_eq, not_false_eq_true, true_and, Bool.false_eq_true, Nat.succ_ne_self, reduceCtorEq, callOk, undefV, ↓s_plFin, ↓s_plTkN, ↓s_plTkG, ↓s_plOneN, AH.get, AH.set_set, setAt, List.all_cons, List.all_nil, Bool.and_self, eq_self, Nat.zero_add, Nat.add_zero, List.drop, and_self, List.getElem?_cons_zero, List.getElem?_cons_succ, ldV_f, ldV_t2, on_int, cl_agg, on_slice, List.set_cons_zero, List.set_cons_succ, ↓n_alloc, n_allocS, Nat.le_refl, n_ldP, n_faP, n_ixL, n_ixA2, n_ldA, n_ldB, n_faA, n_stP, n_stA, ↓s_plK, ↓s_oneK, ↓s_guardPFT, undef, Int.reduceNeg, rows_dropZ, okV, flT_77_0, flT_74_2, flT_77_3, ldT_31, ldT_50, ldT_75, szT_50, zeroT_50, elT_31, en_75, *]) | (refine ret_tmp ?_) | (refine acx_dreg mixed (fun _ _ _ _ e h => ⟨e.trans h.1, h.2⟩) _ (SubH.refl _) ?_) | (refine allNew_intro fun zr zh => ?_; have zg := zh; (try simp only [AH.set_none] at zg)) | (exact SubH.refl _) | (refine PureF.use (key75 (rowAt st.made a) hk12) ?_) | (with_reducible refine And.intro ?_ ?_)))
    exact h _ ((hst.alloc (by assumption) _).put _)
  | some old =>
    rw [hsome old e] at h
    obtain ⟨o0, o1⟩ := hkn old e
    clear hnone hsome hkn
    by_cases hle : (rowAt st.made old).b ≤ (rowAt st.made a).b
    · rw [if_pos hle] at h
      (repeat' (first | (refine lookup75 (kn := st.known) _ ?_ hkl hkw ?_) | (simp only [↓s_reg, ↓s_seq, ↓s_cond, ↓s_condT, ↓s_ret, ↓s_dreg, ↓s_nil, ↓s_consN, ↓s_consG, ↓s_guardTT, ↓s_thenN, ↓s_thenR, ↓s_kret, ↓s_putS, ↓s_putN, ↓s_dOkS, ↓s_dOkN, ↓s_ev_t, ↓s_ev_c, ↓s_ev_f, ↓s_upd, ↓s_move, ↓s_assign, ↓s_isBool, ↓s_pickA, ↓s_pick, ↓s_load, ↓s_store, ↓s_nilCheck, ↓s_bin, ↓s_alloc, ↓s_fieldAddr, ↓s_indexAddr, ↓s_lookup, ↓s_extract, ↓s_callV, ↓s_callL, ↓s_bin_leq, vcNil, vcExtract, ptrV, boolV, List.map_cons, List.map_nil, List.length_cons, List.length_nil, ite_true, ite_false, Nat.reduceEqDiff, Nat.reduceLT, Nat.reduceAdd, ne_eq, not_false_eq_true, true_and, Nat.succ_ne_self, decide_true, reduceCtorEq, ↓s_plFin, ↓s_plTkN, ↓s_plTkG, ↓s_plOneN, AH.get, AH.set_set, setAt, List.all_cons, List.all_nil, Bool.and_self, eq_self, Nat.zero_add, Nat.add_zero, List.drop, and_self, List.getElem?_cons_zero, List.getElem?_cons_succ, ldV_f, ldV_t2, on_int, cl_agg, on_slice, List.set_cons_zero, List.set_cons_succ, ↓n_alloc, n_allocS, Nat.le_refl, n_ldP, n_faP, n_ixL, n_ixA2, n_ldA, n_ldB, n_faA, n_stP, n_stA, ↓s_plK, ↓s_oneK, ↓s_guardPTT, Int.reduceNeg, rows_dropZ, rows_dropZ1, okV, flT_77_0, flT_74_2, flT_77_3, flT_50_1, ldT_31, ldT_50, ldT_75, ldT_3, szT_50, zeroT_50, elT_31, en_75, *]) | (refine ret_tmp ?_) | (refine acx_dreg mixed (fun _ _ _ _ e h => ⟨e.trans h.1, h.2⟩) _ (SubH.refl _) ?_) | (refine allNew_intro fun zr zh => ?_; have zg := zh; (try simp only [AH.set_none] at zg)) | (exact SubH.refl _) | (refine PureF.use (key75 (rowAt st.made a) hk12) ?_) | (with_reducible refine And.intro ?_ ?_)))
      exact h _ (hst.alloc (by assumption) _)
    · rw [if_neg hle] at h
      (repeat' (first | (refine lookup75 (kn := st.known) _ ?_ hkl hkw ?_) | (refine update75 (kn := st.known) _ ?_ hkl hkw ?_) | (simp only [↓s_skip, ↓s_reg, ↓s_seq, ↓s_cond, ↓s_condF, ↓s_ret, ↓s_dreg, ↓s_nil, ↓s_consN, ↓s_consG, ↓s_guardTT, ↓s_thenN, ↓s_kret, ↓s_putS, ↓s_putN, ↓s_dOkS, ↓s_dOkN, ↓s_ev_t, ↓s_ev_c, ↓s_ev_f, ↓s_upd, ↓s_move, ↓s_assign, ↓s_isBool, ↓s_pickA, ↓s_pick, ↓s_load, ↓s_store, ↓s_nilCheck, ↓s_bin, ↓s_alloc, ↓s_fieldAddr, ↓s_indexAddr, ↓s_lookup, ↓s_mapUpdate, ↓s_extract, ↓s_callV, ↓s_callL, ↓s_bin_leq, vcNil, vcExtract, ptrV, boolV, List.map_cons, List.map_nil, List.length_cons, List.length_nil, ite_true, ite_false, Nat.reduceEqDiff, Nat.reduceLT, Nat.reduceAdd, ne_eq, not_false_eq_true, true_and, Nat.succ_ne_self, decide_false, reduceCtorEq, ↓s_plFin, ↓s_plTkN, ↓s_plTkG, ↓s_plOneN, AH.get, AH.set_set, setAt, List.all_cons, List.all_nil, Bool.and_self, eq_self, Nat.zero_add, Nat.add_zero, List.drop, and_self, List.getElem?_cons_zero, List.getElem?_cons_succ, ldV_f, ldV_t2, on_int, cl_agg, on_slice, List.set_cons_zero, List.set_cons_succ, ↓n_alloc, n_allocS, Nat.le_refl, n_ldP, n_faP, n_ixL, n_ixA2, n_ldA, n_ldB, n_faA, n_stP, n_stA, ↓s_plK, ↓s_oneK, ↓s_guardPTT, Int.reduceNeg, rows_dropZ, rows_dropZ1, okV, flT_77_0, flT_74_2, flT_77_3, flT_50_1, ldT_31, ldT_50, ldT_75, ldT_3, szT_50, zeroT_50, elT_31, en_75, *]) | (refine ret_tmp ?_) | (refine acx_dreg mixed (fun _ _ _ _ e h => ⟨e.trans h.1, h.2⟩) _ (SubH.refl _) ?_) | (refine allNew_intro fun zr zh => ?_; have zg := zh; (try simp only [AH.set_none] at zg)) | (exact SubH.refl _) | (refine PureF.use (key75 (rowAt st.made a) hk12) ?_) | (with_reducible refine And.intro ?_ ?_)))
      exact h _ ((hst.alloc (by assumption) _).put _)
theorem keep58 {B H : AH} {s mp : Nat} {rows : List Row} {n : Nat} {most : Int} {st : RS} {l : Line} {K : VE → AH → Prop} (hst : RefS B H s mp rows n most st) (hok : OkS n most st) (hm : most ≤ 5000)
    (hrows : ∀ r ∈ rows, r.c.length ≤ n) (hn : (n : Int) ≤ 12) (h : PostS B s mp rows n most K (keepS rows n most st l)) : VCalls Try.prog 58 [ptrV s 0, lineV l] H K := by
  refine vcalls_intro fd58 (by simp) ?_
  rw [ce58]
  unfold e58
  (repeat' (first | (simp only [↓s_reg, ↓s_seq, ↓s_nil, ↓s_consN, ↓s_thenN, ↓s_kret, ↓s_putS, ↓s_dOkS, ↓s_ev_t, ↓s_ev_c, ↓s_ev_f, ↓s_upd, ↓s_move, ↓s_assign, ↓s_load, ↓s_box, ↓s_callV, ↓s_callL, ptrV, List.map_cons, List.map_nil, List.getD_cons_zero, List.getD_cons_succ, List.getD_nil, ite_true, ite_false, Nat.reduceEqDiff, Nat.reduceLT, true_and, Nat.succ_ne_self, reduceCtorEq, undefV, AH.get, eq_self, List.drop, ldV_t5, cl_agg, ↓n_box, n_ldP, n_ldA, n_ldB, undef, Int.reduceNeg, ldT_52, en_74, *]) | (refine allNew_intro fun zr zh => ?_; have zg := zh; (try simp only [AH.set_none] at zg))))
  refine line74S (hst.alloc (by assumption) _) hok hm hrows (by omega) ?_
  have hok1 := lineS_ok (rows := rows) (l := l) hok
  unfold keepS at h
  cases e : lineS rows n most st l with
  | error p =>
    obtain ⟨o, st1⟩ := p
    rw [e] at h
    cases o with
    | stop c => intro H' hst'; exact ⟨rfl, H', SubH.refl _, h H' hst'⟩
    | found => intro H' hst'; exact ⟨rfl, H', SubH.refl _, h H' hst'⟩
  | ok p =>
    obtain ⟨a, st1⟩ := p
    rw [e] at h hok1
    obtain ⟨hok1, ha0, ha1⟩ := hok1
    intro H1 hst1
    clear e hst
    dsimp only at h
    obtain ⟨ga, gc, la, lc, k1, km1, hs1, hmade1⟩ := hst1.view
    obtain ⟨g1, sp1, rfl, kg1⟩ := hmade1 (fun e => by rw [e] at ha1; simp at ha1; omega)
    have hfit : Fits n (rowAt st1.made a) := by
      have hlt : a.toNat < st1.made.length := by omega
      unfold rowAt
      rw [List.getD_eq_getElem?_getD]
      simp only [hlt, List.getElem?_eq_getElem, Option.getD_some]; exact hok1.fits _ (List.getElem_mem _)
    have hcl : ((rowAt st1.made a).c.length : Int) ≤ 9223372036854775806 := by rw [hfit.1]; omega
    by_cases c0 : commonF (rowAt st1.made a) = 0
    · rw [if_pos c0] at h
      (repeat' (first | (simp only [↓s_reg, ↓s_seq, ↓s_cond, ↓s_condT, ↓s_block, ↓s_ret, ↓s_nil, ↓s_consN, ↓s_thenN, ↓s_thenR, ↓s_inR, ↓s_kret, ↓s_putS, ↓s_dOkS, ↓s_ev_t, ↓s_ev_c, ↓s_ev_f, ↓s_upd, ↓s_move, ↓s_assign, ↓s_load, ↓s_nilCheck, ↓s_bin, ↓s_fieldAddr, ↓s_indexAddr, ↓s_callV, ↓s_callL, ↓s_bin_eql, vcNil, List.map_cons, List.map_nil, List.getD_cons_zero, List.getD_cons_succ, List.getD_nil, ite_true, ite_false, Nat.reduceEqDiff, Nat.reduceLT, ne_eq, not_false_eq_true, true_and, Nat.succ_ne_self, decide_true, reduceCtorEq, eq_self, Nat.zero_add, Nat.add_zero, List.drop, and_self, ldV_f, ldV_t2, n_ldP, n_faP, n_ixL, n_ixA2, n_ldA, n_ldB, n_faA, Int.reduceNeg, rows_dropZ, flT_77_0, flT_74_2, ldT_31, ldT_50, elT_31, en_62, *]) | (refine ret_tmp ?_) | (refine PureF.use (common62 (rowAt st1.made a) hcl) ?_)))
      exact h _ hst1
    · rw [if_neg c0] at h
      by_cases c1 : 1 < commonF (rowAt st1.made a)
      · by_cases c2 : commonF (rowAt st1.made a) ≤ 1000000
        · rw [if_pos ⟨c1, c2⟩] at h
          (repeat' (first | (simp only [↓s_reg, ↓s_seq, ↓s_cond, ↓s_condT, ↓s_condF, ↓s_block, ↓s_nil, ↓s_consN, ↓s_consG, ↓s_guardTT, ↓s_thenN, ↓s_kret, ↓s_putS, ↓s_dOkS, ↓s_ev_t, ↓s_ev_c, ↓s_ev_f, ↓s_upd, ↓s_move, ↓s_assign, ↓s_isBool, ↓s_pickA, ↓s_pick, ↓s_load, ↓s_nilCheck, ↓s_bin, ↓s_build, ↓s_fieldAddr, ↓s_indexAddr, ↓s_callV, ↓s_callL, ↓s_bin_leq, ↓s_bin_gtr, ↓s_bin_eql, vcNil, List.map_cons, List.map_nil, List.length_cons, List.length_nil, List.getD_cons_zero, List.getD_cons_succ, List.getD_nil, ite_true, ite_false, Nat.reduceEqDiff, Nat.reduceLT, Nat.reduceAdd, Nat.reduceLeDiff, ne_eq, not_false_eq_true, true_and, Nat.succ_ne_self, decide_true, decide_false, reduceCtorEq, vcBuild, fillV, setAt, eq_self, Nat.zero_add, Nat.add_zero, List.drop, and_self, List.getElem?_cons_zero, List.getElem?_cons_succ, ldV_f, ldV_t2, cl_int, List.set_cons_zero, List.set_cons_succ, n_ldP, n_faP, n_ixL, n_ixA2, n_ldA, n_ldB, n_faA, Int.reduceNeg, rows_dropZ, flT_77_0, flT_74_2, ldT_31, ldT_50, stT_52, elT_31, en_74, en_62, *]) | (refine PureF.use (common62 (rowAt st1.made a) hcl) ?_)))
          refine line74S (l := ⟨4, a, 0, commonF (rowAt st1.made a), 0⟩) hst1 hok1 hm hrows (by omega) ?_
          have hok2 := lineS_ok (rows := rows) (l := ⟨4, a, 0, commonF (rowAt st1.made a), 0⟩) hok1
          cases e : lineS rows n most st1 ⟨4, a, 0, commonF (rowAt st1.made a), 0⟩ with
          | error p =>
            obtain ⟨o, st2⟩ := p
            rw [e] at h
            cases o with
            | stop c => intro H' hst'; exact ⟨rfl, H', SubH.refl _, h H' hst'⟩
            | found => intro H' hst'; exact ⟨rfl, H', SubH.refl _, h H' hst'⟩
          | ok p =>
            obtain ⟨a2, st2⟩ := p
            rw [e] at h hok2
            obtain ⟨hok2, hb0, hb1⟩ := hok2
            intro H2 hst2
            have h2 : ∀ H', RefS B H' s mp rows n most (keep2 st2 a2).2 → K (.ret (iV (keep2 st2 a2).1)) H' := h
            clear h e hst1 k1 km1 hs1 hmade1 kg1
            (repeat' (first | (simp only [↓s_nil, ↓s_consN, ↓s_thenN, ↓s_inN, ↓s_kret, ↓s_putS, ↓s_dOkS, ↓s_ev_t, ↓s_upd, ↓s_assign, List.getD_cons_succ, List.getD_nil, ite_true, ite_false, Nat.reduceEqDiff, Nat.reduceLT, true_and, Nat.succ_ne_self, eq_self, *])))
            exact tail58 hst2 hok2 hm hn (by simp only [s_upd, Nat.reduceEqDiff, if_false, *] <;> rfl) (by simp only [s_upd, Nat.reduceEqDiff, if_true, if_false, *] <;> rfl) hb0 hb1 h2
        · rw [if_neg (fun e => c2 e.2)] at h
          have h2 : ∀ H', RefS B H' s mp rows n most (keep2 st1 a).2 → K (.ret (iV (keep2 st1 a).1)) H' := h
          clear h
          (repeat' (first | (simp only [↓s_skip, ↓s_reg, ↓s_seq, ↓s_cond, ↓s_condF, ↓s_block, ↓s_nil, ↓s_consN, ↓s_consG, ↓s_guardTT, ↓s_thenN, ↓s_inN, ↓s_kret, ↓s_putS, ↓s_dOkS, ↓s_ev_t, ↓s_ev_c, ↓s_ev_f, ↓s_upd, ↓s_move, ↓s_assign, ↓s_isBool, ↓s_pickA, ↓s_pick, ↓s_load, ↓s_nilCheck, ↓s_bin, ↓s_fieldAddr, ↓s_indexAddr, ↓s_callV, ↓s_callL, ↓s_bin_leq, ↓s_bin_gtr, ↓s_bin_eql, vcNil, List.map_cons, List.map_nil, List.getD_cons_zero, List.getD_cons_succ, List.getD_nil, ite_true, ite_false, Nat.reduceEqDiff, Nat.reduceLT, ne_eq, not_false_eq_true, true_and, Nat.succ_ne_self, decide_true, decide_false, reduceCtorEq, eq_self, Nat.zero_add, Nat.add_zero, List.drop, and_self, ldV_f, ldV_t2, n_ldP, n_faP, n_ixL, n_ixA2, n_ldA, n_ldB, n_faA, Int.reduceNeg, rows_dropZ, flT_77_0, flT_74_2, ldT_31, ldT_50, elT_31, en_62, *]) | (refine PureF.use (common62 (rowAt st1.made a) hcl) ?_)))
          exact tail58 hst1 hok1 hm hn (by simp only [s_upd, Nat.reduceEqDiff, if_false, *] <;> rfl) (by simp only [s_upd, Nat.reduceEqDiff, if_true, if_false, *] <;> rfl) ha0 ha1 h2
      · rw [if_neg (fun e => c1 e.1)] at h
        have h2 : ∀ H', RefS B H' s mp rows n most (keep2 st1 a).2 → K (.ret (iV (keep2 st1 a).1)) H' := h
        clear h
        (repeat' (first | (simp only [↓s_skip, ↓s_reg, ↓s_seq, ↓s_cond, ↓s_condF, ↓s_block, ↓s_nil, ↓s_consN, ↓s_consG, ↓s_guardFT, ↓s_thenN, ↓s_inN, ↓s_kret, ↓s_putS, ↓s_dOkS, ↓s_ev_t, ↓s_ev_c, ↓s_ev_f, ↓s_upd, ↓s_move, ↓s_assign, ↓s_isBool, ↓s_pickA, ↓s_pick, ↓s_load, ↓s_nilCheck, ↓s_bin, ↓s_fieldAddr, ↓s_indexAddr, ↓s_callV, ↓s_callL, ↓s_bin_gtr, ↓s_bin_eql, vcNil, List.map_cons, List.map_nil, List.getD_cons_zero, List.getD_cons_succ, List.getD_nil, ite_true, ite_false, Nat.reduceEqDiff, Nat.reduceLT, ne_eq, not_false_eq_true, true_and, Bool.false_eq_true, Nat.succ_ne_self, decide_false, reduceCtorEq, callOk, undefV, eq_self, Nat.zero_add, Nat.add_zero, List.drop, and_self, ldV_f, ldV_t2, n_ldP, n_faP, n_ixL, n_ixA2, n_ldA, n_ldB, n_faA, undef, Int.reduceNeg, rows_dropZ, flT_77_0, flT_74_2, ldT_31, ldT_50, elT_31, en_62, *]) | (refine PureF.use (common62 (rowAt st1.made a) hcl) ?_)))
        exact tail58 hst1 hok1 hm hn (by simp only [s_upd, Nat.reduceEqDiff, if_false, *] <;> rfl) (by simp only [s_upd, Nat.reduceEqDiff, if_true, if_false, *] <;> rfl) ha0 ha1 h2
end Go.PV.Ytefpjfpelicedaa
end
section
/- The search's state beside slices of one's own; what only reads the state. -/
set_option linter.unusedVariables false
set_option linter.unusedSimpArgs false
set_option maxRecDepth 20000
set_option maxHeartbeats 4000000
namespace Go.PV
theorem AH.del_set_ne (H : AH) {r g : Nat} (b : Blk) (h : r ≠ g) : (H.set r b).del g = (H.del g).set r b := by
  funext i; simp only [AH.set, AH.del]; split <;> split <;> simp_all
theorem AH.set_own {H : AH} {g : Nat} {b : Blk} (h : H g = some b) : (H.del g).set g b = H := by
  funext i; simp only [AH.set, AH.del]; split
  · rename_i e; rw [e]; exact h.symm
  · rfl
theorem OwnX.del {H0 H : AH} {e : TypeId} {k n g : Nat} {v : VV} {cs : List VV} {b0 : Blk} (h : OwnX H0 H e k v n cs) (hr : H0 g = some b0) : OwnX (H0.del g) (H.del g) e k v n cs := by
  rcases h with ⟨rfl, rfl, rfl, rfl⟩ | ⟨r, c, sp, rfl, h0, rfl, h1, h2, h3, h4⟩
  · exact .inl ⟨rfl, rfl, rfl, rfl⟩
  · have hg : r ≠ g := fun e => by subst e; rw [h0] at hr; cases hr
    exact .inr ⟨r, c, sp, rfl, by rw [AH.del_ne _ hg]; exact h0, AH.del_set_ne _ _ hg, h1, h2, h3, h4⟩
end Go.PV
namespace Go.PV.Ytefpjfpelicedaa
open Go Go.Proofs
section
variable {B B' H H' : AH} {s mp : Nat} {rows : List Row} {n : Nat} {most : Int} {st : RS} {e : TypeId} {k m : Nat} {v : VV} {cs : List VV}
theorem RefS.under (h : RefS B H s mp rows n most st) (ho : OwnX H H' e k v m cs) : ∃ B', OwnX B B' e k v m cs ∧ RefS B' H' s mp rows n most st := by
  rcases ho with ⟨rfl, rfl, rfl, rfl⟩ | ⟨g, c, sp, rfl, h0, rfl, h1⟩
  · exact ⟨B, OwnX.nil _ _ _, h⟩
  · obtain ⟨mv, lv, Hs, Hm, b1, b2, b3, hB, ks, km', ho1, ho2⟩ := h
    have hr1 := ho2.sub.none h0
    have hr2 := ho1.sub.none hr1
    have hs := AH.ne_of ks hr2
    have hm := AH.ne_of km' hr2
    refine ⟨B.set g (.cells e cs sp), .inr ⟨g, c, sp, rfl, hB.none hr2, rfl, h1⟩, mv, lv, Hs.set g (.cells e cs sp), Hm.set g (.cells e cs sp), ?_, ?_, b3, hB.set _ _, ?_, ?_, ho1.alloc hr1 _, ho2.alloc h0 _⟩
    · rw [AH.get, if_neg hs.1]; exact b1
    · rw [AH.get, if_neg hm.1]; exact b2
    · rw [AH.get, if_neg hs.1]; exact ks
    · rw [AH.get, if_neg hm.1]; exact km'
theorem RefS.over (h : RefS B' H s mp rows n most st) (ho : OwnX B B' e k v m cs) : ∃ H0, RefS B H0 s mp rows n most st ∧ OwnX H0 H e k v m cs := by
  rcases ho with ⟨rfl, rfl, rfl, rfl⟩ | ⟨g, c, sp, rfl, h0, rfl, h1⟩
  · exact ⟨H, h, OwnX.nil _ _ _⟩
  · obtain ⟨mv, lv, Hs, Hm, b1, b2, b3, hB, ks, km', ho1, ho2⟩ := h
    have hg : Hs g = some (.cells e cs sp) := hB _ _ (AH.set_same _ _ _)
    have hgm := ho1.sub _ _ hg
    have hgh := ho2.sub _ _ hgm
    have hs : ¬ s = g := fun e => by subst e; rw [AH.set_same] at b1; cases b1
    have hm : ¬ mp = g := fun e => by subst e; rw [AH.set_same] at b2; cases b2
    refine ⟨H.del g, ⟨mv, lv, Hs.del g, Hm.del g, ?_, ?_, b3, ?_, ?_, ?_, ho1.del hg, ho2.del hgm⟩, .inr ⟨g, c, sp, rfl, AH.del_same _ _, (AH.set_own hgh).symm, h1⟩⟩
    · rw [AH.get, if_neg hs] at b1; exact b1
    · rw [AH.get, if_neg hm] at b2; exact b2
    · exact SubH.del ((SubH.new h0).trans hB) h0
    · rw [AH.del_ne _ hs]; exact ks
    · rw [AH.del_ne _ hm]; exact km'
theorem RefS.grow (h : RefS B H s mp rows n most st) (ho : OwnX H H' e k v m cs) : RefS B H' s mp rows n most st := by
  rcases ho with ⟨rfl, rfl, rfl, rfl⟩ | ⟨g, c, sp, rfl, h0, rfl, h1⟩
  · exact h
  · exact h.alloc h0 _
end
/-- Numbers in a slice that may be one's own. -/
def SlI (H : AH) (v : VV) (l : List Int) : Prop := (v = .lit (.slice none 0 0) ∧ l = []) ∨ ∃ g c sp, v = .lit (.slice (some ⟨g, 0, none⟩) l.length c) ∧ H g = some (.cells 3 (encC intE l) sp)
theorem SlI.of {H0 H : AH} {v : VV} {m : Nat} {l : List Int} (h : OwnX H0 H 3 1 v m (encC intE l)) (hm : m = l.length) : SlI H v l := by
  subst hm
  rcases h with ⟨rfl, h1, _⟩ | ⟨g, c, sp, rfl, h0, rfl, h1, h2, h3, h4⟩
  · exact .inl ⟨rfl, List.eq_nil_of_length_eq_zero h1⟩
  · exact .inr ⟨g, c, sp, rfl, AH.set_same _ _ _⟩
theorem SlI.mono {H H' : AH} {v : VV} {l : List Int} (h : SlI H v l) (hs : SubH H H') : SlI H' v l := by
  rcases h with h | ⟨g, c, sp, h1, h2⟩
  · exact .inl h
  · exact .inr ⟨g, c, sp, h1, hs _ _ h2⟩
theorem SlI.form {H : AH} {v : VV} {l : List Int} (h : SlI H v l) : ∃ a c, v = .lit (.slice a l.length c) := by
  rcases h with ⟨rfl, rfl⟩ | ⟨g, c, sp, rfl, _⟩
  · exact ⟨none, 0, rfl⟩
  · exact ⟨_, c, rfl⟩
theorem SlI.at {H : AH} {v : VV} {l : List Int} (h : SlI H v l) {i : Nat} (hi : i < l.length) : ∃ g c sp, v = .lit (.slice (some ⟨g, 0, none⟩) l.length c) ∧ H g = some (.cells 3 (encC intE l) sp) := by
  rcases h with ⟨rfl, rfl⟩ | ⟨g, c, sp, h1, h2⟩
  · simp at hi
  · exact ⟨g, c, sp, h1, h2⟩
def coefS (st : RS) (a : Int) (k : Nat) : Int := (rowAt st.made a).c.getD k 0
def InR (st : RS) (l : List Int) : Prop := ∀ a ∈ l, 0 ≤ a ∧ a < (st.made.length : Int)
def signGo (st : RS) (k : Nat) : List Int → Int × Int → Int × Int
  | [], p => p
  | a :: l, p => signGo st k l (if 0 < coefS st a k then (W (p.1 + 1), p.2) else if coefS st a k < 0 then (p.1, W (p.2 + 1)) else p)
def signS (st : RS) (l : List Int) (k : Nat) : Int × Int := signGo st k l (0, 0)
theorem signs76 {B H : AH} {s mp : Nat} {rows : List Row} {n : Nat} {most : Int} {st : RS} {lv : VV} {l : List Int} {k : Nat} (hst : RefS B H s mp rows n most st) (hok : OkS n most st) (hl : SlI H lv l) (hin : InR st l) (hlen : (l.length : Int) ≤ 1000000) (hk1 : k < n) :
    ReadF Try.prog 76 [ptrV s 0, lv, iV k] (.tuple [iV (signS st l k).1, iV (signS st l k).2]) H := by
  unfold ReadF
  refine vcalls_intro fd76 (by simp) ?_
  unfold c76
  obtain ⟨ga, gc, la, lc, k1, km1, hs1, hmade1⟩ := hst.view
  obtain ⟨xa, xc, hlv⟩ := hl.form
  subst hlv
  (repeat' (first | (simp only [↓s_reg, ↓s_seq, ↓s_seqL, ↓s_block, ↓s_loop, ↓s_nil, ↓s_consN, ↓s_thenN, ↓s_kret, ↓s_putS, ↓s_dOkS, ↓s_ev_t, ↓s_ev_c, ↓s_upd, ↓s_move, ↓s_assign, ↓s_callB, ↓s_len, ptrV, intV, List.map_cons, List.map_nil, List.getD_cons_zero, List.getD_cons_succ, List.getD_nil, ite_true, ite_false, Nat.reduceEqDiff, Nat.reduceLT, ne_eq, not_false_eq_true, true_and, reduceCtorEq, undefV, eq_self, n_lenL, undef, elT_37, *])))
  refine acx_loop (fun _ _ _ h => h) (fun A H' => H' = H ∧ A.d = [] ∧ A.t 0 = ptrV s 0 ∧ A.t 2 = iV k ∧ A.t 11 = .lit (.slice xa l.length xc) ∧ A.t 12 = iV l.length ∧ ∃ (i : Nat) (p : Int × Int), i ≤ l.length ∧ A.t 13 = iV i ∧ A.t 6 = iV p.1 ∧ A.t 7 = iV p.2 ∧ signS st l k = signGo st k (l.drop i) p)
    (fun A _ => match A.t 13 with | .lit (.int _ i) => ((l.length : Int) - i).toNat | _ => 0) ?_ ?_
  · exact ⟨rfl, rfl, rfl, rfl, rfl, rfl, 0, (0, 0), by omega, rfl, rfl, rfl, rfl⟩
  · rintro ⟨t, d⟩ H' ⟨rfl, rfl, h0, h2, h11, h12, i, p, hi, h13, h6, h7, hgo⟩
    dsimp only at h0 h2 h11 h12 h13 h6 h7
    unfold b76_1
    by_cases hb : i < l.length
    · obtain ⟨g, c, sp, e, kg⟩ := hl.at hb
      obtain ⟨rfl, rfl⟩ : xa = some ⟨g, 0, none⟩ ∧ xc = c := by simpa using e
      clear e
      obtain ⟨a0, a1⟩ := hin _ (List.getElem_mem hb)
      obtain ⟨g1, sp1, rfl, kg1⟩ := hmade1 (fun e => by rw [e] at a1; simp at a1; omega)
      have hft := (fit_at hok.fits a0 a1).1
      have hk2 : k < (rowAt st.made l[i]).c.length := by omega
      have hgo2 : ∀ p, signGo st k (l.drop i) p = signGo st k (l.drop (i + 1)) (if 0 < (rowAt st.made l[i]).c[k] then (W (p.1 + 1), p.2) else if (rowAt st.made l[i]).c[k] < 0 then (p.1, W (p.2 + 1)) else p) := fun p => by
        rw [List.drop_eq_getElem_cons hb, signGo, coefS]
        simp [List.getD_eq_getElem?_getD, hk2]
      (repeat' (first | (simp only [↓s_skip, ↓s_reg, ↓s_seq, ↓s_cond, ↓s_condT, ↓s_block, ↓s_nil, ↓s_consN, ↓s_thenN, ↓s_inN, ↓s_kret, ↓s_putS, ↓s_dOkS, ↓s_ev_t, ↓s_ev_c, ↓s_upd, ↓s_move, ↓s_assign, ↓s_load, ↓s_nilCheck, ↓s_bin, ↓s_fieldAddr, ↓s_indexAddr, ↓s_bin_lss, ↓s_bin_gtr, ↓s_bin_add, vcNil, ptrV, ite_true, ite_false, Nat.reduceEqDiff, Nat.reduceLT, ne_eq, not_false_eq_true, true_and, Nat.succ_ne_self, decide_true, decide_false, reduceCtorEq, Int.natCast_nonneg, Int.toNat_natCast, Nat.mul_one, eq_self, Nat.zero_add, Nat.add_zero, List.drop, and_self, ldV_f, Int.ofNat_lt, n_ldI, n_ldP, n_faP, n_ixS, n_ixL, n_ixA1, n_ixA2, n_ldA, n_ldC, n_ldB, n_faA, ints_drop, rows_dropZ, flT_77_0, flT_74_2, flT_50_0, ldT_3, ldT_31, ldT_37, elT_37, elT_31, *]) | (refine condL_splitD ?_ ?_ <;> intro) | (with_reducible refine And.intro ?_ ?_)))
      any_goals (rw [wrap_ok (n := (i : Int) + 1) (by omega) (by omega)]; omega)
      · rw [wrap_ok (n := (i : Int) + 1) (by omega) (by omega)]
        exact ⟨i + 1, (W (p.1 + 1), p.2), by omega, rfl, rfl, rfl, rfl⟩
      · rw [wrap_ok (n := (i : Int) + 1) (by omega) (by omega)]
        exact ⟨i + 1, (p.1, W (p.2 + 1)), by omega, rfl, rfl, rfl, rfl⟩
      · rw [wrap_ok (n := (i : Int) + 1) (by omega) (by omega)]
        exact ⟨i + 1, p, by omega, rfl, rfl, rfl, rfl⟩
    · (repeat' (first | (simp only [↓s_reg, ↓s_seq, ↓s_cond, ↓s_condF, ↓s_exit, ↓s_nil, ↓s_consN, ↓s_thenN, ↓s_thenE, ↓s_inE, ↓s_kret, ↓s_putS, ↓s_dOkS, ↓s_ev_t, ↓s_upd, ↓s_bin, ↓s_bin_lss, ptrV, ite_true, Nat.reduceLT, true_and, decide_false, eq_self, Int.ofNat_lt, *]) | (refine acx_go rfl (fun _ _ _ h => h) ?_)))
      unfold c76_1
      (repeat' (first | (simp only [↓s_reg, ↓s_seq, ↓s_ret, ↓s_nil, ↓s_consN, ↓s_thenN, ↓s_putS, ↓s_dOkS, ↓s_ev_t, ↓s_upd, ↓s_move, ↓s_assign, ite_true, ite_false, Nat.reduceEqDiff, Nat.reduceLT, true_and, Nat.succ_ne_self, eq_self, *])))
      rw [List.drop_eq_nil_of_le (by omega), signGo]
      exact retPost_ret rfl (by simp only [resV, resAll, resOne, s_upd, Nat.reduceEqDiff, if_true, if_false, Option.bind_some, Option.map_some, tupV, *] <;> rfl) ⟨rfl, SubH.refl _⟩
/-- Those lines that no other one of their coefficients has taken the place of. -/
def isCur (st : RS) (a : Int) : Bool := decide (0 ≤ a) && decide ((keyAt st.known (keyL (rowAt st.made a))).getD 0 = a)
def curS (st : RS) (l : List Int) : List Int := l.filter (isCur st)
theorem current59 {B H : AH} {s mp : Nat} {rows : List Row} {n : Nat} {most : Int} {st : RS} {lv : VV} {l : List Int} (hst : RefS B H s mp rows n most st) (hok : OkS n most st) (hn : (n : Int) ≤ 12) (hl : SlI H lv l) (hin : ∀ a ∈ l, 0 ≤ a → a < (st.made.length : Int)) (hlen : (l.length : Int) ≤ 1000000) :
    OwnF Try.prog 59 [ptrV s 0, lv] H 3 1 (curS st l).length (encC intE (curS st l)) := by
  unfold OwnF
  refine vcalls_intro fd59 (by simp) ?_
  unfold c59
  obtain ⟨ga, gc, la, lc, k1, km1, hs1, hmade1⟩ := hst.view
  obtain ⟨xa, xc, hlv⟩ := hl.form
  subst hlv
  (repeat' (first | (simp only [↓s_reg, ↓s_seq, ↓s_seqL, ↓s_block, ↓s_loop, ↓s_nil, ↓s_consN, ↓s_thenN, ↓s_kret, ↓s_putS, ↓s_dOkS, ↓s_ev_t, ↓s_ev_c, ↓s_upd, ↓s_move, ↓s_assign, ↓s_callB, ↓s_len, ptrV, intV, List.map_cons, List.map_nil, List.getD_cons_zero, List.getD_cons_succ, List.getD_nil, ite_true, ite_false, Nat.reduceEqDiff, Nat.reduceLT, ne_eq, not_false_eq_true, true_and, reduceCtorEq, undefV, eq_self, n_lenL, undef, elT_37, *])))
  refine acx_loop (fun _ _ _ h => h) (fun A H' => A.d = [] ∧ A.t 0 = ptrV s 0 ∧ A.t 8 = .lit (.slice xa l.length xc) ∧ A.t 9 = iV l.length ∧ ∃ (i : Nat) (v : VV), i ≤ l.length ∧ A.t 10 = iV i ∧ A.t 5 = v ∧ OwnX H H' 3 1 v (curS st (l.take i)).length (encC intE (curS st (l.take i))))
    (fun A _ => match A.t 10 with | .lit (.int _ i) => ((l.length : Int) - i).toNat | _ => 0) ?_ ?_
  · exact ⟨rfl, rfl, rfl, rfl, 0, _, by omega, rfl, rfl, OwnX.nil _ 3 1⟩
  · rintro ⟨t, d⟩ H' ⟨rfl, h0, h8, h9, i, v, hi, h10, h5, ho⟩
    dsimp only at h0 h8 h9 h10 h5
    have k1' := ho.sub _ _ k1
    have km1' := ho.sub _ _ km1
    by_cases hb : i < l.length
    · obtain ⟨g, c, sp, e, kg⟩ := hl.at hb
      obtain ⟨rfl, rfl⟩ : xa = some ⟨g, 0, none⟩ ∧ xc = c := by simpa using e
      clear e
      have kg' := ho.sub _ _ kg
      have hcl : (curS st (l.take i)).length ≤ 1000000 := by
        have := List.length_filter_le (isCur st) (l.take i)
        simp only [curS]; simp at this; omega
      have hT : isCur st l[i] = true → curS st (l.take (i + 1)) = curS st (l.take i) ++ [l[i]] := fun h => by
        unfold curS; rw [List.take_succ_eq_append_getElem hb, List.filter_append]; simp [h]
      have hF : isCur st l[i] = false → curS st (l.take (i + 1)) = curS st (l.take i) := fun h => by
        unfold curS; rw [List.take_succ_eq_append_getElem hb, List.filter_append]; simp [h]
      by_cases a0 : 0 ≤ l[i]
      · have a1 := hin _ (List.getElem_mem hb) a0
        obtain ⟨g1, sp1, rfl, kg1⟩ := hmade1 (fun e => by rw [e] at a1; simp at a1; omega)
        have kg1' := ho.sub _ _ kg1
        have hft := fit_at hok.fits a0 a1
        have hk12 : (rowAt st.made l[i]).c.length ≤ 12 := by rw [hft.1]; omega
        have hkl := key_len (rowAt st.made l[i])
        have hkw := key_w hft
        cases e : keyAt st.known (keyL (rowAt st.made l[i])) with
        | none =>
          have hcu : isCur st l[i] = decide (0 = l[i]) := by simp [isCur, e, a0]
          (repeat' (first | (refine lookup75 (kn := st.known) _ ?_ hkl hkw ?_) | (simp only [↓s_skip, ↓s_reg, ↓s_seq, ↓s_cond, ↓s_condT, ↓s_block, ↓s_dreg, ↓s_nil, ↓s_consN, ↓s_consG, ↓s_guardTT, ↓s_thenN, ↓s_inN, ↓s_kret, ↓s_putS, ↓s_dOkS, ↓s_ev_t, ↓s_ev_c, ↓s_ev_f, ↓s_upd, ↓s_move, ↓s_assign, ↓s_isBool, ↓s_pickA, ↓s_pick, ↓s_load, ↓s_nilCheck, ↓s_bin, ↓s_buildSlice, ↓s_fieldAddr, ↓s_indexAddr, ↓s_lookup, ↓s_callB, ↓s_callV, ↓s_callL, ↓s_append, ↓s_bin_lss, ↓s_bin_geq, ↓s_bin_eql, ↓s_bin_add, vcNil, ptrV, boolV, List.map_cons, List.map_nil, List.length_cons, List.length_nil, List.append_nil, ite_true, ite_false, Nat.reduceEqDiff, Nat.reduceLT, Nat.reduceLeDiff, ne_eq, not_false_eq_true, true_and, Bool.false_eq_true, Nat.succ_ne_self, decide_true, decide_false, reduceCtorEq, Int.natCast_nonneg, Int.toNat_natCast, Nat.mul_one, ↓s_plFin, ↓s_plTkN, ↓s_plTkG, ↓s_plOneG, fillV, setAt, eq_self, Nat.zero_add, Nat.add_zero, List.drop, and_self, ldV_f, ldV_t2, Int.ofNat_lt, cl_int, List.set_cons_zero, Nat.le_refl, n_ldP, n_faP, n_ixL, n_ixA2, n_ldA, n_ldB, n_faA, ↓s_plK, ↓s_oneK, ↓s_guardPTT, vcBuildSlice, List.replicate_succ, List.replicate_zero, List.flatten_cons, List.flatten_nil, ints_drop, rows_dropZ, okV, flT_77_3, flT_77_0, flT_74_2, ldT_3, ldT_75, ldT_31, ldT_50, elT_37, zeroT_3, elT_31, en_75, *]) | (refine condL_splitD ?_ ?_ <;> intro) | (refine acx_dreg mixed (fun _ _ _ _ e h => ⟨e.trans h.1, h.2⟩) _ (SubH.refl _) ?_) | (exact SubH.refl _) | (refine PureF.use (key75 (rowAt st.made l[i]) hk12) ?_) | (with_reducible refine And.intro ?_ ?_)))
          any_goals (rw [wrap_ok (n := (i : Int) + 1) (by omega) (by omega)]; omega)
          · have hc : isCur st l[i] = true := by rw [hcu]; exact decide_eq_true (by assumption)
            refine append_own elT_37 zeroT_3 rfl (by omega) ho rfl rfl (by omega) (by omega) (fun v' H'' ho2 => ?_)
            (repeat' (first | (simp only [↓s_reg, ↓s_nil, ↓s_consN, ↓s_thenN, ↓s_inN, ↓s_kret, ↓s_putS, ↓s_dOkS, ↓s_ev_t, ↓s_ev_c, ↓s_upd, ↓s_move, ↓s_assign, ↓s_bin, ↓s_bin_add, ptrV, ite_true, ite_false, Nat.reduceEqDiff, Nat.reduceLT, true_and, Nat.succ_ne_self, reduceCtorEq, eq_self, *]) | (with_reducible refine And.intro ?_ ?_)))
            · rw [wrap_ok (n := (i : Int) + 1) (by omega) (by omega)]
              exact ⟨i + 1, _, by omega, rfl, rfl, by rw [hT hc, encC_snoc, List.length_append]; exact ho2⟩
            · rw [wrap_ok (n := (i : Int) + 1) (by omega) (by omega)]; omega
          · have hc : isCur st l[i] = false := by rw [hcu]; exact decide_eq_false (by assumption)
            rw [wrap_ok (n := (i : Int) + 1) (by omega) (by omega)]
            exact ⟨i + 1, _, by omega, rfl, rfl, by rw [hF hc]; exact ho⟩
        | some old =>
          have hcu : isCur st l[i] = decide (old = l[i]) := by simp [isCur, e, a0]
          (repeat' (first | (refine lookup75 (kn := st.known) _ ?_ hkl hkw ?_) | (simp only [↓s_skip, ↓s_reg, ↓s_seq, ↓s_cond, ↓s_condT, ↓s_block, ↓s_dreg, ↓s_nil, ↓s_consN, ↓s_consG, ↓s_guardTT, ↓s_thenN, ↓s_inN, ↓s_kret, ↓s_putS, ↓s_dOkS, ↓s_ev_t, ↓s_ev_c, ↓s_ev_f, ↓s_upd, ↓s_move, ↓s_assign, ↓s_isBool, ↓s_pickA, ↓s_pick, ↓s_load, ↓s_nilCheck, ↓s_bin, ↓s_buildSlice, ↓s_fieldAddr, ↓s_indexAddr, ↓s_lookup, ↓s_callB, ↓s_callV, ↓s_callL, ↓s_append, ↓s_bin_lss, ↓s_bin_geq, ↓s_bin_eql, ↓s_bin_add, vcNil, ptrV, boolV, List.map_cons, List.map_nil, List.length_cons, List.length_nil, List.append_nil, ite_true, ite_false, Nat.reduceEqDiff, Nat.reduceLT, Nat.reduceLeDiff, ne_eq, not_false_eq_true, true_and, Bool.false_eq_true, Nat.succ_ne_self, decide_true, decide_false, reduceCtorEq, Int.natCast_nonneg, Int.toNat_natCast, Nat.mul_one, ↓s_plFin, ↓s_plTkN, ↓s_plTkG, ↓s_plOneG, fillV, setAt, eq_self, Nat.zero_add, Nat.add_zero, List.drop, and_self, ldV_f, ldV_t2, Int.ofNat_lt, cl_int, List.set_cons_zero, Nat.le_refl, n_ldP, n_faP, n_ixL, n_ixA2, n_ldA, n_ldB, n_faA, ↓s_plK, ↓s_oneK, ↓s_guardPTT, vcBuildSlice, List.replicate_succ, List.replicate_zero, List.flatten_cons, List.flatten_nil, ints_drop, rows_dropZ, okV, flT_77_3, flT_77_0, flT_74_2, ldT_3, ldT_75, ldT_31, ldT_50, elT_37, zeroT_3, elT_31, en_75, *]) | (refine condL_splitD ?_ ?_ <;> intro) | (refine acx_dreg mixed (fun _ _ _ _ e h => ⟨e.trans h.1, h.2⟩) _ (SubH.refl _) ?_) | (exact SubH.refl _) | (refine PureF.use (key75 (rowAt st.made l[i]) hk12) ?_) | (with_reducible refine And.intro ?_ ?_)))
          any_goals (rw [wrap_ok (n := (i : Int) + 1) (by omega) (by omega)]; omega)
          · have hc : isCur st l[i] = true := by rw [hcu]; exact decide_eq_true (by assumption)
            refine append_own elT_37 zeroT_3 rfl (by omega) ho rfl rfl (by omega) (by omega) (fun v' H'' ho2 => ?_)
            (repeat' (first | (simp only [↓s_reg, ↓s_nil, ↓s_consN, ↓s_thenN, ↓s_inN, ↓s_kret, ↓s_putS, ↓s_dOkS, ↓s_ev_t, ↓s_ev_c, ↓s_upd, ↓s_move, ↓s_assign, ↓s_bin, ↓s_bin_add, ptrV, ite_true, ite_false, Nat.reduceEqDiff, Nat.reduceLT, true_and, Nat.succ_ne_self, reduceCtorEq, eq_self, *]) | (with_reducible refine And.intro ?_ ?_)))
            · rw [wrap_ok (n := (i : Int) + 1) (by omega) (by omega)]
              exact ⟨i + 1, _, by omega, rfl, rfl, by rw [hT hc, encC_snoc, List.length_append]; exact ho2⟩
            · rw [wrap_ok (n := (i : Int) + 1) (by omega) (by omega)]; omega
          · have hc : isCur st l[i] = false := by rw [hcu]; exact decide_eq_false (by assumption)
            rw [wrap_ok (n := (i : Int) + 1) (by omega) (by omega)]
            exact ⟨i + 1, _, by omega, rfl, rfl, by rw [hF hc]; exact ho⟩
      · have hcu : isCur st l[i] = false := by simp [isCur, a0]
        (repeat' (first | (simp only [↓s_skip, ↓s_reg, ↓s_seq, ↓s_cond, ↓s_condT, ↓s_condF, ↓s_block, ↓s_dreg, ↓s_nil, ↓s_consN, ↓s_consG, ↓s_guardFT, ↓s_thenN, ↓s_inN, ↓s_kret, ↓s_putS, ↓s_dOkS, ↓s_ev_t, ↓s_ev_c, ↓s_ev_f, ↓s_upd, ↓s_move, ↓s_assign, ↓s_isBool, ↓s_pickA, ↓s_pick, ↓s_load, ↓s_bin, ↓s_indexAddr, ↓s_bin_lss, ↓s_bin_geq, ↓s_bin_add, ptrV, ite_true, ite_false, Nat.reduceEqDiff, Nat.reduceLT, true_and, Bool.false_eq_true, Nat.succ_ne_self, decide_true, decide_false, reduceCtorEq, Int.natCast_nonneg, Int.toNat_natCast, Nat.mul_one, callOk, undefV, ↓s_plFin, ↓s_plTkN, ↓s_plTkG, ↓s_plOneG, eq_self, Nat.zero_add, and_self, ldV_f, Int.ofNat_lt, n_ldP, n_ixL, n_ixA2, n_ldA, n_ldB, ↓s_plK, ↓s_oneK, ↓s_guardPFT, undef, ints_drop, ldT_3, elT_37, en_75, *]) | (refine acx_dreg mixed (fun _ _ _ _ e h => ⟨e.trans h.1, h.2⟩) _ (SubH.refl _) ?_) | (exact SubH.refl _) | (with_reducible refine And.intro ?_ ?_)))
        any_goals (rw [wrap_ok (n := (i : Int) + 1) (by omega) (by omega)]; omega)
        rw [wrap_ok (n := (i : Int) + 1) (by omega) (by omega)]
        exact ⟨i + 1, _, by omega, rfl, rfl, by rw [hF hcu]; exact ho⟩
    · rw [List.take_of_length_le (by omega)] at ho
      (repeat' (first | (simp only [↓s_reg, ↓s_seq, ↓s_cond, ↓s_condF, ↓s_exit, ↓s_ret, ↓s_nil, ↓s_consN, ↓s_thenN, ↓s_thenE, ↓s_inE, ↓s_kret, ↓s_putS, ↓s_dOkS, ↓s_ev_t, ↓s_upd, ↓s_move, ↓s_assign, ↓s_bin, ↓s_bin_lss, ptrV, ite_true, ite_false, Nat.reduceEqDiff, Nat.reduceLT, true_and, decide_false, eq_self, Int.ofNat_lt, *]) | (refine ret_tmp ?_) | (refine acx_go rfl (fun _ _ _ h => h) ?_)))
      exact ⟨_, H, rfl, SubH.refl _, ho⟩
end Go.PV.Ytefpjfpelicedaa
end
section
/- The unknown whose elimination makes the fewest rows. -/
set_option linter.unusedVariables false
set_option linter.unusedSimpArgs false
set_option maxRecDepth 20000
set_option maxHeartbeats 4000000
namespace Go.PV.Ytefpjfpelicedaa
open Go Go.Proofs
abbrev boolE (b : Bool) : List VV := [boolV b]
theorem bools_drop {l : List Bool} {i : Nat} (hi : i < l.length) : (encC boolE l).drop i = boolV l[i] :: encC boolE (l.drop (i + 1)) := encC_drop1 (enc := fun b : Bool => .lit (.bool b)) hi
theorem bools_len (l : List Bool) : (encC boolE l).length = l.length := by simpa using encC_length (enc := boolE) (k := 1) (fun _ => rfl) l
def cost (st : RS) (l : List Int) (k : Nat) : Int := W ((signS st l k).1 * (signS st l k).2)
def easGo (st : RS) (l : List Int) : List Bool → Nat → Int × Int → Int × Int
  | [], _, p => p
  | d :: ds, k, p => easGo st l ds (k + 1) (if d = true then p else if p.1 < 0 ∨ cost st l k < p.2 then ((k : Int), cost st l k) else p)
def easS (st : RS) (l : List Int) (done : List Bool) : Int := (easGo st l done 0 (-1, 0)).1
theorem easiest60 {B H : AH} {s mp gd dc sd : Nat} {ed : TypeId} {rows : List Row} {n : Nat} {most : Int} {st : RS} {lv : VV} {l : List Int} {done : List Bool} (hst : RefS B H s mp rows n most st) (hok : OkS n most st) (hn : (n : Int) ≤ 12) (hl : SlI H lv l) (hin : InR st l) (hlen : (l.length : Int) ≤ 1000000)
    (hd : H gd = some (.cells ed (encC boolE done) sd)) (hdn : done.length = n) : ReadF Try.prog 60 [ptrV s 0, lv, .lit (.slice (some ⟨gd, 0, none⟩) n dc)] (iV (easS st l done)) H := by
  unfold ReadF
  refine vcalls_intro fd60 (by simp) ?_
  unfold c60
  subst hdn
  (repeat' (first | (simp only [↓s_reg, ↓s_seq, ↓s_seqL, ↓s_block, ↓s_loop, ↓s_nil, ↓s_consN, ↓s_thenN, ↓s_kret, ↓s_putS, ↓s_dOkS, ↓s_ev_t, ↓s_ev_c, ↓s_upd, ↓s_move, ↓s_assign, ↓s_callB, ↓s_len, ptrV, intV, List.map_cons, List.map_nil, List.getD_cons_zero, List.getD_cons_succ, List.getD_nil, ite_true, ite_false, Nat.reduceEqDiff, Nat.reduceLT, ne_eq, not_false_eq_true, true_and, reduceCtorEq, undefV, eq_self, n_lenL, undef, Int.reduceNeg, elT_103, *])))
  refine acx_loop (fun _ _ _ h => h) (fun A H' => H' = H ∧ A.d = [] ∧ A.t 0 = ptrV s 0 ∧ A.t 1 = lv ∧ A.t 13 = .lit (.slice (some ⟨gd, 0, none⟩) done.length dc) ∧ A.t 14 = iV done.length ∧ ∃ (i : Nat) (p : Int × Int), i ≤ done.length ∧ A.t 15 = iV i ∧ A.t 7 = iV p.1 ∧ A.t 8 = iV p.2 ∧ easGo st l done 0 (-1, 0) = easGo st l (done.drop i) i p)
    (fun A _ => match A.t 15 with | .lit (.int _ i) => ((done.length : Int) - i).toNat | _ => 0) ?_ ?_
  · exact ⟨rfl, rfl, rfl, rfl, rfl, rfl, 0, (-1, 0), by omega, rfl, rfl, rfl, rfl⟩
  · rintro ⟨t, d⟩ H' ⟨rfl, rfl, h0, h1, h13, h14, i, p, hi, h15, h7, h8, hgo⟩
    dsimp only at h0 h1 h13 h14 h15 h7 h8
    unfold b60_1
    by_cases hb : i < done.length
    · have hsg := signs76 (k := i) hst hok hl hin hlen hb
      have hgo2 : ∀ p, easGo st l (done.drop i) i p = easGo st l (done.drop (i + 1)) (i + 1) (if done[i] = true then p else if p.1 < 0 ∨ cost st l i < p.2 then ((i : Int), cost st l i) else p) := fun p => by
        rw [List.drop_eq_getElem_cons hb, easGo]
      have hco : W ((signS st l i).1 * (signS st l i).2) = cost st l i := rfl
      (repeat' (first | (refine hsg.use ?_) | (simp only [↓s_skip, ↓s_reg, ↓s_seq, ↓s_cond, ↓s_condT, ↓s_block, ↓s_exit, ↓s_nil, ↓s_consN, ↓s_consG, ↓s_guardTF, ↓s_guardFF, ↓s_thenN, ↓s_thenE, ↓s_inN, ↓s_inE, ↓s_kret, ↓s_putS, ↓s_dOkS, ↓s_ev_t, ↓s_ev_c, ↓s_ev_f, ↓s_upd, ↓s_move, ↓s_assign, ↓s_isBool, ↓s_pickA, ↓s_pick, ↓s_load, ↓s_bin, ↓s_indexAddr, ↓s_extract, ↓s_callV, ↓s_callL, ↓s_bin_lss, ↓s_bin_add, ↓s_bin_mul, vcExtract, ptrV, boolV, List.map_cons, List.map_nil, ite_true, ite_false, Nat.reduceEqDiff, Nat.reduceLT, true_and, Bool.false_eq_true, Nat.succ_ne_self, decide_true, decide_false, reduceCtorEq, Int.natCast_nonneg, Int.toNat_natCast, Nat.mul_one, callOk, undefV, eq_self, Nat.zero_add, and_self, List.getElem?_cons_zero, List.getElem?_cons_succ, ldV_f, Int.ofNat_lt, n_ldP, n_ixL, n_ixA2, n_ldA, n_ldB, undef, Int.reduceNeg, bools_drop, ldT_4, elT_103, en_76, *]) | (refine guardL_splitFD ?_ ?_ <;> intro) | (refine condL_splitD ?_ ?_ <;> intro) | (refine condL_split ?_ ?_ <;> intro) | (with_reducible refine And.intro ?_ ?_)))
      any_goals (rw [wrap_ok (n := (i : Int) + 1) (by omega) (by omega)]; omega)
      all_goals rw [wrap_ok (n := (i : Int) + 1) (by omega) (by omega)]
      · exact ⟨i + 1, p, by omega, rfl, rfl, rfl, rfl⟩
      · exact ⟨i + 1, ((i : Int), cost st l i), by omega, rfl, rfl, rfl, by simp only [or_true, if_true]⟩
      · exact ⟨i + 1, p, by omega, rfl, rfl, rfl, by simp only [or_self, if_false]⟩
      · exact ⟨i + 1, ((i : Int), cost st l i), by omega, rfl, rfl, rfl, by simp only [true_or, if_true]⟩
    · (repeat' (first | (simp only [↓s_reg, ↓s_seq, ↓s_cond, ↓s_condF, ↓s_exit, ↓s_nil, ↓s_consN, ↓s_thenN, ↓s_thenE, ↓s_inE, ↓s_kret, ↓s_putS, ↓s_dOkS, ↓s_ev_t, ↓s_upd, ↓s_bin, ↓s_bin_lss, ptrV, ite_true, Nat.reduceLT, true_and, decide_false, eq_self, Int.ofNat_lt, Int.reduceNeg, *]) | (refine acx_go rfl (fun _ _ _ h => h) ?_)))
      unfold c60_1
      (repeat' (first | (simp only [↓s_reg, ↓s_seq, ↓s_ret, ↓s_nil, ↓s_consN, ↓s_thenN, ↓s_putS, ↓s_dOkS, ↓s_ev_t, ↓s_upd, ↓s_move, ↓s_assign, ite_true, ite_false, Nat.reduceEqDiff, Nat.reduceLT, true_and, eq_self, *]) | (refine ret_tmp ?_) | (exact SubH.refl _) | (with_reducible refine And.intro ?_ ?_)))
      rw [easS, hgo, List.drop_eq_nil_of_le (by omega), easGo]
end Go.PV.Ytefpjfpelicedaa
end
section
/- Lists of numbers one behind the other: the plain part, and rules. -/
set_option linter.unusedVariables false
set_option linter.unusedSimpArgs false
set_option maxRecDepth 20000
set_option maxHeartbeats 4000000
namespace Go.PV
theorem least {p : Nat → Prop} {n : Nat} (h : p n) : ∃ m, p m ∧ ∀ k, k < m → ¬ p k := by
  induction n using Nat.strongRecOn with
  | _ n ih =>
    by_cases hk : ∃ k, k < n ∧ p k
    · obtain ⟨k, h1, h2⟩ := hk; exact ih k h1 h2
    · exact ⟨n, h, fun k hk' hp => hk ⟨k, hk', hp⟩⟩
/-- A loop whose rounds go down by some number that need not be read off the state. -/
theorem acx_loopN {cx : Cx} {Q : APost} {A : AF} {H : AH} {a : ACode} (hQ : noGoto Q) (I : Nat → AF → AH → Prop) {n0 : Nat} (h0 : I n0 A H)
    (round : ∀ n A H, I n A H → ∀ R : AF → AH → Prop, (∀ m A' H', m < n → I m A' H' → R A' H') → vc cx a (thenA R Q) A H) : ACx cx (.loop a) Q A H := by
  classical
  have hm : ∀ A H, ∃ m, (∃ n, I n A H) → I m A H ∧ ∀ k, k < m → ¬ I k A H := fun A H => by
    by_cases h : ∃ n, I n A H
    · obtain ⟨n, hn⟩ := h
      obtain ⟨m, h1, h2⟩ := least (p := fun n => I n A H) hn
      exact ⟨m, fun _ => ⟨h1, h2⟩⟩
    · exact ⟨0, fun h' => absurd h' h⟩
  refine acx_loop hQ (fun A H => ∃ n, I n A H) (fun A H => Classical.choose (hm A H)) ⟨n0, h0⟩ fun A H hI => ?_
  have hc := Classical.choose_spec (hm A H) hI
  refine round _ A H hc.1 _ fun m A' H' hlt hI' => ⟨⟨m, hI'⟩, ?_⟩
  have hc' := Classical.choose_spec (hm A' H') ⟨m, hI'⟩
  refine Nat.lt_of_le_of_lt (Nat.le_of_not_lt fun hk => hc'.2 m hk hI') hlt
end Go.PV
namespace Go.PV.Ytefpjfpelicedaa
open Go Go.Proofs
/-- The list behind another one; the last number changes fastest. -/
def nextL (b : Int) : List Int → Option (List Int)
  | [] => none
  | a :: cs => match nextL b cs with
    | some cs1 => some (a :: cs1)
    | none => if a = b then none else some ((a + 1) :: cs.map fun _ => 0)
def rank (b : Int) : List Int → Nat
  | [] => 0
  | a :: cs => (b - a).toNat * (b + 1).toNat ^ cs.length + rank b cs
def Within (b : Int) (x : List Int) : Prop := ∀ a ∈ x, 0 ≤ a ∧ a ≤ b
theorem rank_lt {b : Int} (hb : 0 ≤ b) : ∀ {x : List Int}, Within b x → rank b x < (b + 1).toNat ^ x.length
  | [], _ => by simp [rank]
  | a :: cs, h => by
    have h1 := rank_lt hb (x := cs) fun c hc => h c (List.mem_cons_of_mem _ hc)
    have h2 := h a (List.mem_cons_self ..)
    simp only [rank, List.length_cons, Nat.pow_succ]
    have h3 : (b - a).toNat + 1 ≤ (b + 1).toNat := by omega
    have h4 := Nat.mul_le_mul_right ((b + 1).toNat ^ cs.length) h3
    rw [Nat.add_mul, Nat.one_mul] at h4
    rw [Nat.mul_comm ((b + 1).toNat ^ cs.length)]
    omega
theorem nextL_len {b : Int} : ∀ {x y : List Int}, nextL b x = some y → y.length = x.length
  | [], y, h => by simp [nextL] at h
  | a :: cs, y, h => by
    simp only [nextL] at h
    split at h
    · rename_i cs1 h'
      cases h
      simp [nextL_len h']
    · split at h
      · cases h
      · cases h; simp
theorem nextL_within {b : Int} (hb : 0 ≤ b) : ∀ {x y : List Int}, Within b x → nextL b x = some y → Within b y
  | [], y, _, h => by simp [nextL] at h
  | a :: cs, y, hx, h => by
    have h2 := hx a (List.mem_cons_self ..)
    have h1 : Within b cs := fun c hc => hx c (List.mem_cons_of_mem _ hc)
    simp only [nextL] at h
    split at h
    · rename_i cs1 h'
      cases h
      intro c hc
      rcases List.mem_cons.1 hc with rfl | hc
      · exact h2
      · exact nextL_within hb h1 h' c hc
    · split at h
      · cases h
      · cases h
        intro c hc
        rcases List.mem_cons.1 hc with rfl | hc
        · omega
        · obtain ⟨_, _, rfl⟩ := List.mem_map.1 hc; omega
theorem nextL_rank {b : Int} (hb : 0 ≤ b) : ∀ {x y : List Int}, Within b x → nextL b x = some y → rank b y < rank b x
  | [], y, _, h => by simp [nextL] at h
  | a :: cs, y, hx, h => by
    have h2 := hx a (List.mem_cons_self ..)
    have h1 : Within b cs := fun c hc => hx c (List.mem_cons_of_mem _ hc)
    simp only [nextL] at h
    split at h
    · rename_i cs1 h'
      cases h
      have := nextL_rank hb h1 h'
      simp only [rank, nextL_len h']; omega
    · split at h
      · cases h
      · rename_i hne
        cases h
        have h3 := rank_lt hb (x := cs.map fun _ => (0 : Int)) fun c hc => by obtain ⟨_, _, rfl⟩ := List.mem_map.1 hc; omega
        simp only [List.length_map] at h3
        simp only [rank, List.length_map]
        have h4 : (b - a).toNat = (b - (a + 1)).toNat + 1 := by omega
        rw [h4, Nat.add_mul, Nat.one_mul]
        omega
/-- From the back: what stands at an index goes up, behind it all is at the bound, and becomes 0. -/
theorem nextL_at {b : Int} : ∀ {x : List Int} {k : Nat} (hk : k < x.length), x[k] ≠ b → (∀ j (h : j < x.length), k < j → x[j] = b) → nextL b x = some (x.take k ++ (x[k] + 1) :: List.replicate (x.length - k - 1) 0)
  | a :: cs, 0, hk, hne, hall => by
    have hn : nextL b cs = none := by
      have : ∀ l : List Int, (∀ c ∈ l, c = b) → nextL b l = none := by
        intro l
        induction l with
        | nil => intro _; rfl
        | cons c l ih => intro h; simp only [nextL, ih fun c hc => h c (List.mem_cons_of_mem _ hc), h c (List.mem_cons_self ..), if_true]
      refine this cs fun c hc => ?_
      obtain ⟨j, hj, rfl⟩ := List.getElem_of_mem hc
      exact hall (j + 1) (by simp; omega) (by omega)
    have h2 : ¬ a = b := hne
    simp only [nextL, hn, if_neg h2]
    simp [List.map_const']
  | a :: cs, k + 1, hk, hne, hall => by
    have := nextL_at (b := b) (x := cs) (k := k) (by simpa using hk) (by simpa using hne) fun j h hj => hall (j + 1) (by simp; omega) (by omega)
    simp [nextL, this]
theorem nextL_none {b : Int} : ∀ {x : List Int}, (∀ c ∈ x, c = b) → nextL b x = none
  | [], _ => rfl
  | a :: cs, h => by simp only [nextL, nextL_none fun c hc => h c (List.mem_cons_of_mem _ hc), h a (List.mem_cons_self ..), if_true]
def findL (p : List Int → Bool) (b : Int) : Nat → List Int → Option (List Int)
  | 0, _ => none
  | n + 1, x => if p x then some x else match nextL b x with | none => none | some y => findL p b n y
theorem findL_fuel {p : List Int → Bool} {b : Int} (hb : 0 ≤ b) : ∀ (n m : Nat) {x : List Int}, Within b x → rank b x < n → rank b x < m → findL p b n x = findL p b m x
  | n + 1, m + 1, x, hx, h1, h2 => by
    simp only [findL]
    split
    · rfl
    · cases e : nextL b x with
      | none => rfl
      | some y =>
        have := nextL_rank hb hx e
        exact findL_fuel hb n m (nextL_within hb hx e) (by omega) (by omega)
/-- The first list from one on of which something is true. -/
def fromL (p : List Int → Bool) (b : Int) (x : List Int) : Option (List Int) := findL p b (rank b x + 1) x
theorem fromL_hit {p : List Int → Bool} {b : Int} {x : List Int} (h : p x = true) : fromL p b x = some x := by simp [fromL, findL, h]
theorem fromL_next {p : List Int → Bool} {b : Int} (hb : 0 ≤ b) {x y : List Int} (hx : Within b x) (h : p x = false) (hy : nextL b x = some y) : fromL p b x = fromL p b y := by
  have h1 := nextL_rank hb hx hy
  show findL p b (rank b x + 1) x = findL p b (rank b y + 1) y
  rw [findL, if_neg (by simp [h]), hy]
  exact findL_fuel hb _ _ (nextL_within hb hx hy) (by omega) (by omega)
theorem fromL_end {p : List Int → Bool} {b : Int} {x : List Int} (h : p x = false) (hy : nextL b x = none) : fromL p b x = none := by
  simp [fromL, findL, h, hy]
end Go.PV.Ytefpjfpelicedaa
end
section
/- Pairs of lines, yielded. -/
set_option linter.unusedVariables false
set_option linter.unusedSimpArgs false
set_option maxRecDepth 20000
set_option maxHeartbeats 4000000
namespace Go.PV.Ytefpjfpelicedaa
open Go Go.Proofs
def cf (R : Int → Row) (k : Nat) (a : Int) : Int := (R a).c.getD k 0
def inner (R : Int → Row) (k : Nat) (a : Int) (l : List Int) : List (Int × Int) := if 0 < cf R k a then (l.filter fun b => decide (cf R k b < 0)).map fun b => (a, b) else []
def pairsL (R : Int → Row) (k : Nat) (l m : List Int) : List (Int × Int) := m.flatMap fun a => inner R k a l
theorem inner_yes {R : Int → Row} {k : Nat} {a b : Int} {l : List Int} (h1 : 0 < cf R k a) (h2 : cf R k b < 0) : inner R k a (b :: l) = (a, b) :: inner R k a l := by
  simp [inner, h1, h2]
theorem inner_no {R : Int → Row} {k : Nat} {a b : Int} {l : List Int} (h2 : ¬ (0 < cf R k a ∧ cf R k b < 0)) : inner R k a (b :: l) = inner R k a l := by
  unfold inner
  split
  · rename_i h
    have : ¬ cf R k b < 0 := fun e => h2 ⟨h, e⟩
    simp [this]
  · rfl
theorem pairs61 {s : Nat} {lv : VV} {k : Nat} {H : AH} {K : VE → AH → Prop} (h : ∀ r2 r1 r3, H r2 = none → (H.set r2 (.cells 71 [ptrV s 0] 0)) r1 = none → ((H.set r2 (.cells 71 [ptrV s 0] 0)).set r1 (.cells 37 [lv] 0)) r3 = none →
      K (.ret (.func (.func 77) [] [ptrV r1 0, ptrV r2 0, ptrV r3 0])) (((H.set r2 (.cells 71 [ptrV s 0] 0)).set r1 (.cells 37 [lv] 0)).set r3 (.cells 3 [iV k] 0))) (hlv : lv.cells = [lv]) : VCalls Try.prog 61 [ptrV s 0, lv, iV k] H K := by
  refine vcalls_intro fd61 (by simp) ?_
  unfold c61
  (repeat' (first | (simp only [↓s_reg, ↓s_seq, ↓s_ret, ↓s_nil, ↓s_consN, ↓s_thenN, ↓s_kret, ↓s_putS, ↓s_dOkS, ↓s_ev_t, ↓s_ev_c, ↓s_upd, ↓s_assign, ↓s_box, ↓s_makeFunc, ptrV, List.map_cons, List.map_nil, List.getD_cons_zero, List.getD_cons_succ, List.getD_nil, ite_true, ite_false, Nat.reduceEqDiff, Nat.reduceLT, true_and, Nat.succ_ne_self, undefV, eq_self, cl_int, cl_ptr, ↓n_box, undef, *]) | (refine ret_tmp ?_) | (refine allNew_intro fun zr zh => ?_; have zg := zh; (try simp only [AH.set_none] at zg))))
  exact h _ _ _ (by assumption) (by assumption) (by assumption)
def ReadsS (l : List Int) (R : Int → Row) (s : Nat) (H : AH) : Prop := ∃ a c rv nv rest made sp e, H s = some (.cells e (rv :: nv :: .lit (.slice a (List.length made) c) :: rest) sp) ∧ (made ≠ [] → ∃ g sp, a = some ⟨g, 0, none⟩ ∧ H g = some (.cells 50 (encC rowE made) sp)) ∧ ∀ x ∈ l, 0 ≤ x ∧ x < (made.length : Int) ∧ rowAt made x = R x
theorem pairs77 {y lv : VV} {l : List Int} {k s r1 r2 r3 : Nat} {R : Int → Row} {I : List (Int × Int) → AH → Prop} {Pan : List PanicEntry → AH → Prop} {H : AH} {K : VE → AH → Prop} (hlen : (l.length : Int) ≤ 1000000) (hI : I (pairsL R k l l) H)
    (hread : ∀ ps H, I ps H → H r1 = some (.cells 37 [lv] 0) ∧ H r2 = some (.cells 71 [ptrV s 0] 0) ∧ H r3 = some (.cells 3 [iV k] 0) ∧ SlI H lv l ∧ ReadsS l R s H)
    (hR : ∀ a ∈ l, k < (R a).c.length)
    (hy : ∀ a b ps H K', a ∈ l → b ∈ l → 0 < cf R k a → cf R k b < 0 → I ((a, b) :: ps) H → (∀ H', I ps H' → K' (.ret (boolV true)) H') → (∀ ch H', Pan ch H' → K' (.pan ch) H') → ACall Try.prog none y [iV a, iV b] H K')
    (hyl : ∀ B xs K', vcCall Try.prog none y xs B K' = ACall Try.prog none y xs B K')
    (hEnd : ∀ H u, I [] H → K (.ret u) H) (hPan : ∀ ch H, Pan ch H → K (.pan ch) H) : VCalls Try.prog 77 [y, ptrV r1 0, ptrV r2 0, ptrV r3 0] H K := by
  refine vcalls_intro fd77 (by simp) ?_
  unfold c77
  obtain ⟨q1, q2, q3, hl, -⟩ := hread _ _ hI
  obtain ⟨xa, xc, hlv⟩ := hl.form
  subst hlv
  (repeat' (first | (simp only [↓s_reg, ↓s_seq, ↓s_block, ↓s_loop, ↓s_nil, ↓s_consN, ↓s_thenN, ↓s_kret, ↓s_putS, ↓s_dOkS, ↓s_ev_t, ↓s_ev_c, ↓s_upd, ↓s_move, ↓s_load, ↓s_callB, ↓s_len, ptrV, intV, List.map_cons, List.map_nil, List.getD_cons_zero, List.getD_cons_succ, List.getD_nil, ite_true, Nat.reduceLT, ne_eq, not_false_eq_true, true_and, reduceCtorEq, undefV, eq_self, List.drop, ldV_f, n_ldP, n_lenL, n_ldA, n_ldB, undef, ldT_37, elT_37, *])))
  refine acx_loop (fun _ _ _ h => h) (fun A H' => A.d = [] ∧ A.t 0 = y ∧ A.t 1 = ptrV r1 0 ∧ A.t 2 = ptrV r2 0 ∧ A.t 3 = ptrV r3 0 ∧ A.t 9 = .lit (.slice xa l.length xc) ∧ A.t 10 = iV l.length ∧ ∃ i : Nat, i ≤ l.length ∧ A.t 11 = iV i ∧ I (pairsL R k l (l.drop i)) H')
    (fun A _ => match A.t 11 with | .lit (.int _ i) => ((l.length : Int) - i).toNat | _ => 0) ?_ ?_
  · exact ⟨rfl, rfl, rfl, rfl, rfl, rfl, rfl, 0, by omega, rfl, hI⟩
  · clear q1 q2 q3 hl
    rintro ⟨t, d⟩ H' ⟨rfl, h0, h1, h2, h3, h9, h10, i, hi, h11, hI⟩
    dsimp only at h0 h1 h2 h3 h9 h10 h11
    unfold b77_2
    obtain ⟨q1, q2, q3, hl, hrd⟩ := hread _ _ hI
    by_cases hb : i < l.length
    · obtain ⟨g, c, sp, e, kg⟩ := hl.at hb
      obtain ⟨rfl, rfl⟩ : xa = some ⟨g, 0, none⟩ ∧ xc = c := by simpa using e
      clear e
      have hpl : pairsL R k l (l.drop i) = inner R k l[i] l ++ pairsL R k l (l.drop (i + 1)) := by
        rw [List.drop_eq_getElem_cons hb]; rfl
      rw [hpl] at hI
      (repeat' (first | (simp only [↓s_skip, ↓s_reg, ↓s_seq, ↓s_seqL, ↓s_cond, ↓s_condT, ↓s_block, ↓s_loop, ↓s_nil, ↓s_consN, ↓s_thenN, ↓s_kret, ↓s_putS, ↓s_dOkS, ↓s_ev_t, ↓s_ev_c, ↓s_upd, ↓s_move, ↓s_assign, ↓s_load, ↓s_bin, ↓s_indexAddr, ↓s_callB, ↓s_len, ↓s_bin_lss, ptrV, intV, List.map_cons, List.map_nil, ite_true, ite_false, Nat.reduceEqDiff, Nat.reduceLT, ne_eq, not_false_eq_true, true_and, Nat.succ_ne_self, decide_true, reduceCtorEq, Int.natCast_nonneg, Int.toNat_natCast, Nat.mul_one, eq_self, Nat.zero_add, List.drop, and_self, ldV_f, Int.ofNat_lt, n_ldP, n_ixL, n_ixA2, n_lenL, n_ldA, n_ldB, ints_drop, ldT_3, ldT_37, elT_37, *])))
      refine acx_loop (fun _ _ _ h => h) (fun A H' => A.d = [] ∧ A.t 0 = y ∧ A.t 1 = ptrV r1 0 ∧ A.t 2 = ptrV r2 0 ∧ A.t 3 = ptrV r3 0 ∧ A.t 9 = .lit (.slice (some ⟨g, 0, none⟩) l.length xc) ∧ A.t 10 = iV l.length ∧ A.t 11 = iV i ∧ A.t 6 = iV l[i] ∧ A.t 15 = .lit (.slice (some ⟨g, 0, none⟩) l.length xc) ∧ A.t 16 = iV l.length ∧
          ∃ j : Nat, j ≤ l.length ∧ A.t 17 = iV j ∧ I (inner R k l[i] (l.drop j) ++ pairsL R k l (l.drop (i + 1))) H')
        (fun A _ => match A.t 17 with | .lit (.int _ j) => ((l.length : Int) - j).toNat | _ => 0) ?_ ?_
      · refine ⟨rfl, ?_, ?_, ?_, ?_, ?_, ?_, ?_, ?_, ?_, ?_, 0, by omega, ?_, hI⟩
        all_goals simp only [s_upd, Nat.reduceEqDiff, if_true, if_false, *]
        rfl
      · clear q1 q2 q3 hl hrd kg h0 h1 h2 h3 h9 h10 h11 hI
        rintro ⟨t, d⟩ H' ⟨rfl, h0, h1, h2, h3, h9, h10, h11, h6, h15, h16, j, hj, h17, hI⟩
        dsimp only at h0 h1 h2 h3 h9 h10 h11 h6 h15 h16 h17
        unfold b77_1
        obtain ⟨q1, q2, q3, hl, xm, cm, rv, nv, rest, made, sm, em, ks, hm, hrows⟩ := hread _ _ hI
        by_cases hb2 : j < l.length
        · obtain ⟨g', c', sp', e, kg⟩ := hl.at hb2
          obtain ⟨rfl, rfl⟩ : g = g' ∧ xc = c' := by simpa using e
          clear e
          obtain ⟨a0, a1, ha⟩ := hrows _ (List.getElem_mem hb)
          obtain ⟨c0, c1, hc⟩ := hrows _ (List.getElem_mem hb2)
          obtain ⟨gm, spm, rfl, km⟩ := hm (fun e => by rw [e] at a1; simp at a1; omega)
          have hka := hR _ (List.getElem_mem hb)
          have hkc := hR _ (List.getElem_mem hb2)
          have hca : (R l[i]).c[k] = cf R k l[i] := by simp [cf, List.getD_eq_getElem?_getD, hka]
          have hcc : (R l[j]).c[k] = cf R k l[j] := by simp [cf, List.getD_eq_getElem?_getD, hkc]
          have hdj : l.drop j = l[j] :: l.drop (j + 1) := List.drop_eq_getElem_cons hb2
          rw [hdj] at hI
          by_cases s1 : 0 < cf R k l[i]
          · by_cases s2 : cf R k l[j] < 0
            · rw [inner_yes s1 s2] at hI
              (repeat' (first | (simp only [↓s_skip, ↓s_reg, ↓s_seq, ↓s_cond, ↓s_condT, ↓s_block, ↓s_dreg, ↓s_nil, ↓s_consN, ↓s_consG, ↓s_guardTT, ↓s_thenN, ↓s_kret, ↓s_putS, ↓s_dOkS, ↓s_ev_t, ↓s_ev_c, ↓s_upd, ↓s_move, ↓s_assign, ↓s_isBool, ↓s_pickA, ↓s_pick, ↓s_load, ↓s_nilCheck, ↓s_bin, ↓s_fieldAddr, ↓s_indexAddr, ↓s_callV, ↓s_bin_lss, ↓s_bin_gtr, vcNil, ptrV, List.map_cons, List.map_nil, ite_true, ite_false, Nat.reduceEqDiff, Nat.reduceLT, ne_eq, not_false_eq_true, true_and, Nat.succ_ne_self, decide_true, reduceCtorEq, Int.natCast_nonneg, Int.toNat_natCast, Nat.mul_one, ↓s_plFin, ↓s_plTkN, ↓s_plTkG, eq_self, Nat.zero_add, Nat.add_zero, List.drop, and_self, ldV_f, Int.ofNat_lt, n_ldI, n_ldP, n_faP, n_ixS, n_ixL, n_ixA1, n_ixA2, n_ldA, n_ldC, n_ldB, n_faA, ↓s_plK, ↓s_cutK, ↓s_plCutG, ↓s_guardPTT, ints_drop, rows_dropZ, flT_77_0, flT_74_2, flT_50_0, ldT_3, ldT_71, ldT_31, ldT_37, elT_37, elT_31, *]) | (refine acx_dreg mixed (fun _ _ _ _ e h => ⟨e.trans h.1, h.2⟩) _ (SubH.refl _) ?_)))
              refine hy _ _ _ _ _ (List.getElem_mem hb) (List.getElem_mem hb2) s1 s2 hI (fun H2 hI2 => ?_) (fun ch H2 hp => ⟨rfl, H2, SubH.refl _, hPan _ _ hp⟩)
              clear hI q1 q2 q3 hl ks hm kg km
              (repeat' (first | (simp only [↓s_skip, ↓s_reg, ↓s_cond, ↓s_condF, ↓s_nil, ↓s_consN, ↓s_consG, ↓s_guardTT, ↓s_thenN, ↓s_inN, ↓s_kret, ↓s_putS, ↓s_dOkS, ↓s_ev_t, ↓s_ev_c, ↓s_upd, ↓s_move, ↓s_isBool, ↓s_pickA, ↓s_pick, ↓s_bin, ↓s_un, ↓s_un_not, ↓s_bin_add, ptrV, boolV, ite_true, ite_false, Nat.reduceEqDiff, Nat.reduceLT, true_and, Nat.succ_ne_self, Bool.not_true, reduceCtorEq, eq_self, *]) | (with_reducible refine And.intro ?_ ?_)))
              · rw [wrap_ok (n := (j : Int) + 1) (by omega) (by omega)]
                exact ⟨j + 1, by omega, rfl, hI2⟩
              · rw [wrap_ok (n := (j : Int) + 1) (by omega) (by omega)]
                omega
            · rw [inner_no (fun e => s2 e.2)] at hI
              clear hdj
              (repeat' (first | (simp only [↓s_skip, ↓s_reg, ↓s_seq, ↓s_cond, ↓s_condT, ↓s_condF, ↓s_block, ↓s_dreg, ↓s_nil, ↓s_consN, ↓s_consG, ↓s_guardFT, ↓s_thenN, ↓s_inN, ↓s_kret, ↓s_putS, ↓s_dOkS, ↓s_ev_t, ↓s_ev_c, ↓s_upd, ↓s_move, ↓s_assign, ↓s_isBool, ↓s_pickA, ↓s_pick, ↓s_load, ↓s_nilCheck, ↓s_bin, ↓s_fieldAddr, ↓s_indexAddr, ↓s_bin_lss, ↓s_bin_gtr, ↓s_bin_add, vcNil, ptrV, ite_true, ite_false, Nat.reduceEqDiff, Nat.reduceLT, ne_eq, not_false_eq_true, true_and, Bool.false_eq_true, Nat.succ_ne_self, decide_true, decide_false, reduceCtorEq, Int.natCast_nonneg, Int.toNat_natCast, Nat.mul_one, callOk, undefV, ↓s_plFin, ↓s_plTkN, ↓s_plTkG, eq_self, Nat.zero_add, Nat.add_zero, List.drop, and_self, ldV_f, Int.ofNat_lt, n_ldI, n_ldP, n_faP, n_ixS, n_ixL, n_ixA1, n_ixA2, n_ldA, n_ldC, n_ldB, n_faA, ↓s_plK, ↓s_cutK, ↓s_plCutG, ↓s_guardPTT, ↓s_guardPFT, undef, ints_drop, rows_dropZ, flT_77_0, flT_74_2, flT_50_0, ldT_3, ldT_71, ldT_31, ldT_37, elT_37, elT_31, *]) | (refine acx_dreg mixed (fun _ _ _ _ e h => ⟨e.trans h.1, h.2⟩) _ (SubH.refl _) ?_) | (with_reducible refine And.intro ?_ ?_)))
              · rw [wrap_ok (n := (j : Int) + 1) (by omega) (by omega)]
                exact ⟨j + 1, by omega, rfl, hI⟩
              · rw [wrap_ok (n := (j : Int) + 1) (by omega) (by omega)]
                omega
          · rw [inner_no (fun e => s1 e.1)] at hI
            clear hdj
            (repeat' (first | (simp only [↓s_skip, ↓s_reg, ↓s_seq, ↓s_cond, ↓s_condT, ↓s_condF, ↓s_block, ↓s_dreg, ↓s_nil, ↓s_consN, ↓s_consG, ↓s_guardFT, ↓s_thenN, ↓s_inN, ↓s_kret, ↓s_putS, ↓s_dOkS, ↓s_ev_t, ↓s_ev_c, ↓s_upd, ↓s_move, ↓s_assign, ↓s_isBool, ↓s_pickA, ↓s_pick, ↓s_load, ↓s_nilCheck, ↓s_bin, ↓s_fieldAddr, ↓s_indexAddr, ↓s_bin_lss, ↓s_bin_gtr, ↓s_bin_add, vcNil, ptrV, ite_true, ite_false, Nat.reduceEqDiff, Nat.reduceLT, ne_eq, not_false_eq_true, true_and, Bool.false_eq_true, Nat.succ_ne_self, decide_true, decide_false, reduceCtorEq, Int.natCast_nonneg, Int.toNat_natCast, Nat.mul_one, callOk, undefV, ↓s_plFin, ↓s_plTkN, ↓s_plTkG, eq_self, Nat.zero_add, Nat.add_zero, List.drop, and_self, ldV_f, Int.ofNat_lt, n_ldI, n_ldP, n_faP, n_ixS, n_ixL, n_ixA1, n_ixA2, n_ldA, n_ldC, n_ldB, n_faA, ↓s_plK, ↓s_cutK, ↓s_plCutG, ↓s_guardPFT, undef, ints_drop, rows_dropZ, flT_77_0, flT_74_2, flT_50_0, ldT_3, ldT_71, ldT_31, ldT_37, elT_37, elT_31, *]) | (refine acx_dreg mixed (fun _ _ _ _ e h => ⟨e.trans h.1, h.2⟩) _ (SubH.refl _) ?_) | (with_reducible refine And.intro ?_ ?_)))
            · rw [wrap_ok (n := (j : Int) + 1) (by omega) (by omega)]
              exact ⟨j + 1, by omega, rfl, hI⟩
            · rw [wrap_ok (n := (j : Int) + 1) (by omega) (by omega)]
              omega
        · have hin0 : inner R k l[i] (l.drop j) = [] := by rw [List.drop_eq_nil_of_le (by omega)]; unfold inner; split <;> rfl
          rw [hin0, List.nil_append] at hI
          (repeat' (first | (simp only [↓s_reg, ↓s_seq, ↓s_cond, ↓s_condF, ↓s_exit, ↓s_nil, ↓s_consN, ↓s_thenN, ↓s_thenE, ↓s_inN, ↓s_inE, ↓s_kret, ↓s_putS, ↓s_dOkS, ↓s_ev_t, ↓s_upd, ↓s_bin, ↓s_bin_lss, ptrV, ite_true, ite_false, Nat.reduceLT, true_and, Nat.succ_ne_self, decide_false, reduceCtorEq, eq_self, Int.ofNat_lt, *]) | (refine acx_go rfl (fun _ _ _ h => h) ?_)))
          unfold c77_1
          (repeat' (first | (simp only [↓s_reg, ↓s_nil, ↓s_consN, ↓s_thenN, ↓s_kret, ↓s_putS, ↓s_dOkS, ↓s_ev_t, ↓s_ev_c, ↓s_upd, ↓s_move, ↓s_bin, ↓s_bin_add, ptrV, ite_true, ite_false, Nat.reduceEqDiff, Nat.reduceLT, true_and, reduceCtorEq, eq_self, *]) | (with_reducible refine And.intro ?_ ?_)))
          · rw [wrap_ok (n := (i : Int) + 1) (by omega) (by omega)]
            exact ⟨i + 1, by omega, rfl, hI⟩
          · rw [wrap_ok (n := (i : Int) + 1) (by omega) (by omega)]
            omega
    · rw [List.drop_eq_nil_of_le (by omega)] at hI
      (repeat' (first | (simp only [↓s_reg, ↓s_seq, ↓s_cond, ↓s_condF, ↓s_exit, ↓s_nil, ↓s_consN, ↓s_thenN, ↓s_thenE, ↓s_inE, ↓s_kret, ↓s_putS, ↓s_dOkS, ↓s_ev_t, ↓s_upd, ↓s_bin, ↓s_bin_lss, ptrV, ite_true, Nat.reduceLT, true_and, decide_false, eq_self, Int.ofNat_lt, *])))
      exact ⟨rfl, _, H', _, rfl, .refl _ _, hEnd _ _ hI⟩
end Go.PV.Ytefpjfpelicedaa
end
section
/- The search asg a function, and what stays true of its state. -/
set_option linter.unusedVariables false
set_option linter.unusedSimpArgs false
set_option maxRecDepth 20000
set_option maxHeartbeats 4000000
namespace Go.PV.Ytefpjfpelicedaa
open Go Go.Proofs
abbrev ResL := Except (Out × RS) (RS × List Int)
def keepsS (rows : List Row) (n : Nat) (most : Int) : List Line → RS → List Int → ResL
  | [], s, l => .ok (s, l)
  | x :: xs, s, l => match keepS rows n most s x with
    | .error e => .error e
    | .ok (a, s') => keepsS rows n most xs s' (l ++ [a])
def sumLine (R : Int → Row) (k : Nat) (p : Int × Int) : Line :=
  ⟨3, p.1, p.2, W ((W (-(cf R k p.2))).tdiv (commonF ⟨[W (-(cf R k p.2)), cf R k p.1], 0⟩)), W ((cf R k p.1).tdiv (commonF ⟨[W (-(cf R k p.2)), cf R k p.1], 0⟩))⟩
def rowsOf (s : RS) : Int → Row := fun a => rowAt s.made a
abbrev ResR := Except (Out × RS) (RS × List Int × List Bool)
def zerosS (s : RS) (k : Nat) (l : List Int) : List Int := l.filter fun a => decide (coefS s a k = 0)
def roundS (rows : List Row) (n : Nat) (most : Int) (s : RS) (l : List Int) (done : List Bool) : ResR :=
  match keepsS rows n most ((pairsL (rowsOf s) (easS s (curS s l) done).toNat (curS s l) (curS s l)).map (sumLine (rowsOf s) (easS s (curS s l) done).toNat)) s (zerosS s (easS s (curS s l) done).toNat (curS s l)) with
  | .error e => .error e
  | .ok (s', next) => .ok (s', next, done.set (easS s (curS s l) done).toNat true)
def roundsS (rows : List Row) (n : Nat) (most : Int) : Nat → RS → List Int → List Bool → Except (Out × RS) RS
  | 0, s, _, _ => .ok s
  | r + 1, s, l, done => match roundS rows n most s l done with
    | .error e => .error e
    | .ok (s', l', done') => roundsS rows n most r s' l' done'
def givens (rows : List Row) : List Line := (List.range rows.length).map fun i => ⟨1, (i : Nat), 0, 0, 0⟩
def naturals (n : Nat) : List Line := (List.range n).map fun k => ⟨2, (k : Nat), 0, 0, 0⟩
def searchS (rows : List Row) (n : Nat) (most : Int) : Except (Out × RS) RS :=
  match keepsS rows n most (givens rows) ⟨[], [], []⟩ [] with
  | .error e => .error e
  | .ok (s1, l1) => match keepsS rows n most (naturals n) s1 l1 with
    | .error e => .error e
    | .ok (s2, l2) => roundsS rows n most n s2 l2 (List.replicate n false)
/-- What grows. -/
structure Grows (s s' : RS) : Prop where
  pre : ∃ more, s'.made = s.made ++ more
  le : s.ls.length ≤ s'.ls.length
theorem Grows.refl (s : RS) : Grows s s := ⟨⟨[], by simp⟩, Nat.le_refl _⟩
theorem Grows.trans {a b c : RS} (h : Grows a b) (k : Grows b c) : Grows a c := by
  obtain ⟨x, hx⟩ := h.pre
  obtain ⟨y, hy⟩ := k.pre
  exact ⟨⟨x ++ y, by rw [hy, hx, List.append_assoc]⟩, Nat.le_trans h.le k.le⟩
theorem Grows.row {s s' : RS} (h : Grows s s') {a : Int} (h0 : 0 ≤ a) (h1 : a < (s.made.length : Int)) : rowAt s'.made a = rowAt s.made a ∧ a < (s'.made.length : Int) := by
  obtain ⟨x, hx⟩ := h.pre
  have hlt : a.toNat < s.made.length := by omega
  constructor
  · unfold rowAt
    rw [hx, List.getD_eq_getElem?_getD, List.getD_eq_getElem?_getD, List.getElem?_append_left hlt]
  · rw [hx]; simp; omega
theorem lineS_grows {rows : List Row} {n : Nat} {most : Int} {s : RS} {l : Line} : match lineS rows n most s l with
    | .error (_, s') => Grows s s'
    | .ok (a, s') => Grows s s' ∧ s.ls.length < s'.ls.length := by
  have key : Grows s ⟨s.made ++ [(makeF rows s.made n l).1], s.ls ++ [l], s.known⟩ := ⟨⟨_, rfl⟩, by simp⟩
  by_cases h1 : (s.ls.length : Int) = most
  · rw [lineS_fuel h1]; exact .refl _
  by_cases h2 : (makeF rows s.made n l).2 = 0
  · by_cases h3 : absurdF (makeF rows s.made n l).1 = true
    · rw [lineS_found h1 h2 h3]; exact key
    · rw [lineS_val h1 h2 (by simpa using h3)]
      exact ⟨key, by simp⟩
  · rw [lineS_err h1 h2]; exact .refl _
def KOk (s : RS) (l : List Int) : Prop := ∀ a ∈ l, 0 ≤ a → a < (s.made.length : Int)
theorem keep2_ok {n : Nat} {most : Int} {s : RS} {a : Int} (h : OkS n most s) (h0 : 0 ≤ a) (h1 : a < (s.made.length : Int)) :
    OkS n most (keep2 s a).2 ∧ (0 ≤ (keep2 s a).1 → (keep2 s a).1 < ((keep2 s a).2.made.length : Int)) ∧ (keep2 s a).2.made = s.made ∧ (keep2 s a).2.ls = s.ls := by
  have key : OkS n most ⟨s.made, s.ls, (keyL (rowAt s.made a), a) :: s.known⟩ := ⟨h.fits, h.len, h.le, fun p hp => by
    rcases List.mem_cons.1 hp with rfl | hp
    · exact ⟨h0, h1⟩
    · exact h.kn p hp⟩
  unfold keep2
  split
  · split
    · exact ⟨h, by simp, rfl, rfl⟩
    · exact ⟨key, fun _ => h1, rfl, rfl⟩
  · exact ⟨key, fun _ => h1, rfl, rfl⟩
theorem keepS_ok {rows : List Row} {n : Nat} {most : Int} {s : RS} {l : Line} (h : OkS n most s) : match keepS rows n most s l with
    | .error (_, s') => OkS n most s' ∧ Grows s s'
    | .ok (a, s') => OkS n most s' ∧ Grows s s' ∧ s.ls.length < s'.ls.length ∧ (0 ≤ a → a < (s'.made.length : Int)) := by
  unfold keepS
  have h1 := lineS_ok (rows := rows) (l := l) h
  have h2 := lineS_grows (rows := rows) (n := n) (most := most) (s := s) (l := l)
  cases e : lineS rows n most s l with
  | error p => obtain ⟨o, s1⟩ := p; rw [e] at h1 h2; exact ⟨h1, h2⟩
  | ok p =>
    obtain ⟨a, s1⟩ := p
    rw [e] at h1 h2
    obtain ⟨k1, k2, k3⟩ := h1
    obtain ⟨g1, g2⟩ := h2
    dsimp only
    by_cases c0 : commonF (rowAt s1.made a) = 0
    · rw [if_pos c0]; exact ⟨k1, g1, g2, by omega⟩
    · rw [if_neg c0]
      have key : ∀ {s2 : RS} {a2 : Int}, OkS n most s2 → Grows s s2 → s.ls.length < s2.ls.length → 0 ≤ a2 → a2 < (s2.made.length : Int) → OkS n most (keep2 s2 a2).2 ∧ Grows s (keep2 s2 a2).2 ∧ s.ls.length < (keep2 s2 a2).2.ls.length ∧ (0 ≤ (keep2 s2 a2).1 → (keep2 s2 a2).1 < ((keep2 s2 a2).2.made.length : Int)) := fun q1 q2 q3 q4 q5 => by
        obtain ⟨r1, r2, r3, r4⟩ := keep2_ok q1 q4 q5
        exact ⟨r1, ⟨by rw [r3]; exact q2.pre, by rw [r4]; exact q2.le⟩, by rw [r4]; exact q3, r2⟩
      by_cases c1 : 1 < commonF (rowAt s1.made a) ∧ commonF (rowAt s1.made a) ≤ 1000000
      · rw [if_pos c1]
        have h3 := lineS_ok (rows := rows) (l := ⟨4, a, 0, commonF (rowAt s1.made a), 0⟩) k1
        have h4 := lineS_grows (rows := rows) (n := n) (most := most) (s := s1) (l := ⟨4, a, 0, commonF (rowAt s1.made a), 0⟩)
        cases e2 : lineS rows n most s1 ⟨4, a, 0, commonF (rowAt s1.made a), 0⟩ with
        | error p => obtain ⟨o, s2⟩ := p; rw [e2] at h3 h4; exact ⟨h3, g1.trans h4⟩
        | ok p =>
          obtain ⟨a2, s2⟩ := p
          rw [e2] at h3 h4
          exact key h3.1 (g1.trans h4.1) (by have := h4.2; omega) h3.2.1 h3.2.2
      · rw [if_neg c1]
        exact key k1 g1 g2 k2 k3
theorem keepS_val {rows : List Row} {n : Nat} {most : Int} {s s' : RS} {l : Line} {a : Int} (h : OkS n most s) (e : keepS rows n most s l = .ok (a, s')) : OkS n most s' ∧ Grows s s' ∧ s.ls.length < s'.ls.length ∧ (0 ≤ a → a < (s'.made.length : Int)) := by
  have := keepS_ok (rows := rows) (l := l) h
  rw [e] at this; exact this
theorem KOk.grow {s s' : RS} {l : List Int} (h : KOk s l) (g : Grows s s') : KOk s' l := fun a ha h0 => (g.row h0 (h a ha h0)).2
theorem KOk.snoc {s s' : RS} {l : List Int} {a : Int} (h : KOk s l) (g : Grows s s') (ha : 0 ≤ a → a < (s'.made.length : Int)) : KOk s' (l ++ [a]) := by
  intro x hx
  rcases List.mem_append.1 hx with hx | hx
  · exact (h.grow g) x hx
  · rw [List.mem_singleton.1 hx]; exact ha
theorem cur_in {s : RS} {l : List Int} (h : KOk s l) : InR s (curS s l) := by
  intro a ha
  obtain ⟨h1, h2⟩ := List.mem_filter.1 ha
  have h0 : 0 ≤ a := by simp [isCur] at h2; exact h2.1
  exact ⟨h0, h a h1 h0⟩
theorem easGo_spec {st : RS} {l : List Int} : ∀ (ds : List Bool) (i : Nat) (p : Int × Int), (easGo st l ds i p = p ∧ (p.1 < 0 → ∀ d ∈ ds, d = true)) ∨ ∃ k, i ≤ k ∧ ∃ h : k - i < ds.length, (easGo st l ds i p).1 = k ∧ ds[k - i] = false
  | [], i, p => .inl ⟨rfl, fun _ d hd => by cases hd⟩
  | d :: ds, i, p => by
    simp only [easGo]
    by_cases hd : d = true
    · rw [if_pos hd]
      rcases easGo_spec ds (i + 1) p with ⟨h1, h2⟩ | ⟨k, hk, hlt, h1, h2⟩
      · refine .inl ⟨h1, fun h x hx => ?_⟩
        rcases List.mem_cons.1 hx with rfl | hx
        · exact hd
        · exact h2 h x hx
      · refine .inr ⟨k, by omega, by simp; omega, h1, ?_⟩
        rw [List.getElem_cons, dif_neg (by omega)]
        simpa [Nat.sub_sub] using h2
    · rw [if_neg hd]
      have hd' : d = false := by simpa using hd
      split
      · rcases easGo_spec ds (i + 1) ((i : Int), cost st l i) with ⟨h1, h2⟩ | ⟨k, hk, hlt, h1, h2⟩
        · exact .inr ⟨i, Nat.le_refl _, by simp, by rw [h1], by simp [hd']⟩
        · refine .inr ⟨k, by omega, by simp; omega, h1, ?_⟩
          rw [List.getElem_cons, dif_neg (by omega)]
          simpa [Nat.sub_sub] using h2
      · rename_i hc
        rcases easGo_spec ds (i + 1) p with ⟨h1, h2⟩ | ⟨k, hk, hlt, h1, h2⟩
        · exact .inl ⟨h1, fun h => absurd (.inl h) hc⟩
        · refine .inr ⟨k, by omega, by simp; omega, h1, ?_⟩
          rw [List.getElem_cons, dif_neg (by omega)]
          simpa [Nat.sub_sub] using h2
theorem eas_ok {st : RS} {l : List Int} {done : List Bool} (h : false ∈ done) : ∃ k, ∃ hk : k < done.length, easS st l done = k ∧ done[k] = false := by
  rcases easGo_spec (st := st) (l := l) done 0 (-1, 0) with ⟨h1, h2⟩ | ⟨k, hk, hlt, h1, h2⟩
  · have := h2 (by decide) false h
    cases this
  · exact ⟨k, by simpa using hlt, h1, by simpa using h2⟩
section
variable {B H : AH} {s mp : Nat} {rows : List Row} {n : Nat} {most : Int} {st : RS}
theorem RefS.allocB {r : Nat} (h : RefS B H s mp rows n most st) (hr : H r = none) (b : Blk) : RefS (B.set r b) (H.set r b) s mp rows n most st := by
  obtain ⟨mv, lv, Hs, Hm, b1, b2, b3, hB, ks, km', ho1, ho2⟩ := h
  have hr1 := ho2.sub.none hr
  have hr2 := ho1.sub.none hr1
  have hs := AH.ne_of ks hr2
  have hm := AH.ne_of km' hr2
  refine ⟨mv, lv, Hs.set r b, Hm.set r b, ?_, ?_, b3, hB.set _ _, ?_, ?_, ho1.alloc hr1 _, ho2.alloc hr _⟩
  · rw [AH.get, if_neg hs.1]; exact b1
  · rw [AH.get, if_neg hm.1]; exact b2
  · rw [AH.get, if_neg hs.1]; exact ks
  · rw [AH.get, if_neg hm.1]; exact km'
theorem RefS.storeB {r : Nat} {b0 : Blk} (h : RefS B H s mp rows n most st) (hr : B r = some b0) (b : Blk) : RefS (B.set r b) (H.set r b) s mp rows n most st := by
  obtain ⟨mv, lv, Hs, Hm, b1, b2, b3, hB, ks, km', ho1, ho2⟩ := h
  have hs := AH.ne_of hr b1
  have hm := AH.ne_of hr b2
  refine ⟨mv, lv, Hs.set r b, Hm.set r b, ?_, ?_, b3, hB.set _ _, ?_, ?_, ho1.put (hB _ _ hr) _, ho2.put (ho1.sub _ _ (hB _ _ hr)) _⟩
  · rw [AH.get, if_neg hs.2]; exact b1
  · rw [AH.get, if_neg hm.2]; exact b2
  · rw [AH.get, if_neg hs.2]; exact ks
  · rw [AH.get, if_neg hm.2]; exact km'
theorem RefS.sub (h : RefS B H s mp rows n most st) : SubH B H := by
  obtain ⟨a, c, la, lc, h1, h2, h3, h4⟩ := h.view
  exact h3
theorem RefS.reads {l : List Int} (h : RefS B H s mp rows n most st) {R : Int → Row} (hl : ∀ x ∈ l, 0 ≤ x ∧ x < (st.made.length : Int) ∧ rowAt st.made x = R x) : ReadsS l R s H := by
  obtain ⟨a, c, la, lc, h1, h2, h3, h4⟩ := h.view
  exact ⟨a, c, _, _, _, st.made, 0, 77, h1, h4, hl⟩
end
end Go.PV.Ytefpjfpelicedaa
end
section
/- A round of the search: the lines without the unknown. -/
set_option linter.unusedVariables false
set_option linter.unusedSimpArgs false
set_option maxRecDepth 20000
set_option maxHeartbeats 4000000
namespace Go.PV.Ytefpjfpelicedaa
open Go Go.Proofs
theorem AH.set_id {H : AH} {r : Nat} {b : Blk} (h : H r = some b) : H.set r b = H := by
  funext i; simp only [AH.set]; split
  · rename_i e; rw [e]; exact h.symm
  · rfl
def keepT (t t' : Nat → VV) : Prop := t' 1 = t 1 ∧ t' 2 = t 2 ∧ t' 5 = t 5 ∧ t' 6 = t 6 ∧ t' 7 = t 7 ∧ t' 58 = t 58 ∧ t' 59 = t 59
theorem zeros40 {C H : AH} {s mp : Nat} {rows : List Row} {n : Nat} {most : Int} {st : RS} {t : Nat → VV} {d : List Deferred} {Q : APost} {r1 r6 r7 : Nat} {lv : VV} {l : List Int} {k : Nat} (hQ : noGoto Q) (hP : panQ Q)
    (h1 : t 1 = ptrV r1 0) (h6 : t 6 = ptrV r6 0) (h7 : t 7 = ptrV r7 0) (h71 : t 71 = lv) (h72 : t 72 = iV l.length) (h73 : t 73 = iV 0)
    (c1 : C r1 = some (.cells 71 [ptrV s 0] 0)) (c6 : C r6 = some (.cells 3 [iV k] 0)) (c7 : C r7 = some (.cells 37 [.lit (.slice none 0 0)] 0)) (hl : SlI C lv l) (hl7 : ∀ g c, lv = .lit (.slice (some ⟨g, 0, none⟩) l.length c) → g ≠ r7) (d16 : r1 ≠ r7) (d67 : r6 ≠ r7)
    (hst : RefS C H s mp rows n most st) (hok : OkS n most st) (hin : InR st l) (hk : k < n) (hlen : (l.length : Int) ≤ 1000000)
    (hk' : ∀ t' v C' H', keepT t t' → OwnX (C.set r7 (.cells 37 [v] 0)) C' 3 1 v (zerosS st k l).length (encC intE (zerosS st k l)) → RefS C' H' s mp rows n most st → Q .normal ⟨t', d⟩ H') :
    ACx ⟨Try.prog, 147, none⟩ (.loop b40_3) (inBlockA 6 Q) ⟨t, d⟩ H := by
  have hQ6 : noGoto (inBlockA 6 Q) := fun l A H h => hQ l A H h
  obtain ⟨xa, xc, hlv⟩ := hl.form
  refine acx_loop hQ6 (fun A H' => A.d = d ∧ keepT t A.t ∧ A.t 71 = lv ∧ A.t 72 = iV l.length ∧ ∃ (i : Nat) (v : VV) (C' : AH), i ≤ l.length ∧ A.t 73 = iV i ∧ OwnX (C.set r7 (.cells 37 [v] 0)) C' 3 1 v (zerosS st k (l.take i)).length (encC intE (zerosS st k (l.take i))) ∧ RefS C' H' s mp rows n most st)
    (fun A _ => match A.t 73 with | .lit (.int _ i) => ((l.length : Int) - i).toNat | _ => 0) ?_ ?_
  · refine ⟨rfl, ⟨rfl, rfl, rfl, rfl, rfl, rfl, rfl⟩, h71, h72, 0, .lit (.slice none 0 0), C, by omega, h73, ?_, hst⟩
    rw [AH.set_id c7]; exact OwnX.nil _ 3 1
  · rintro ⟨u, d'⟩ H' ⟨rfl, ⟨u1, u2, u5, u6, u7, u58, u59⟩, e71, e72, i, v, C', hi, e73, ho, hst'⟩
    dsimp only at u1 u2 u5 u6 u7 u58 u59 e71 e72 e73
    have w1 : u 1 = ptrV r1 0 := u1.trans h1
    have w6 : u 6 = ptrV r6 0 := u6.trans h6
    have w7 : u 7 = ptrV r7 0 := u7.trans h7
    subst hlv
    unfold b40_3
    obtain ⟨ga, gc, la, lc, k1, km1, hs1, hmade1⟩ := hst'.view
    have hsub := ho.sub.trans hs1
    have q1 : H' r1 = some (.cells 71 [ptrV s 0] 0) := hsub _ _ (by rw [AH.get, if_neg d16]; exact c1)
    have q6 : H' r6 = some (.cells 3 [iV k] 0) := hsub _ _ (by rw [AH.get, if_neg d67]; exact c6)
    have q7 : H' r7 = some (.cells 37 [v] 0) := hsub _ _ (AH.set_same _ _ _)
    by_cases hb : i < l.length
    · obtain ⟨g, c, sp, e, kg⟩ := hl.at hb
      have hg7 := hl7 g c (by simpa using e)
      obtain ⟨rfl, rfl⟩ : xa = some ⟨g, 0, none⟩ ∧ xc = c := by simpa using e
      clear e
      have kg' : H' g = some (.cells 3 (encC intE l) sp) := hsub _ _ (by rw [AH.get, if_neg hg7]; exact kg)
      obtain ⟨a0, a1⟩ := hin _ (List.getElem_mem hb)
      obtain ⟨g1, sp1, rfl, kg1⟩ := hmade1 (fun e => by rw [e] at a1; simp at a1; omega)
      have hft := (fit_at hok.fits a0 a1).1
      have hk2 : k < (rowAt st.made l[i]).c.length := by omega
      have hco : (rowAt st.made l[i]).c[k] = coefS st l[i] k := by simp [coefS, List.getD_eq_getElem?_getD, hk2]
      have hT : coefS st l[i] k = 0 → zerosS st k (l.take (i + 1)) = zerosS st k (l.take i) ++ [l[i]] := fun h => by
        unfold zerosS; rw [List.take_succ_eq_append_getElem hb, List.filter_append]; simp [h]
      have hF : ¬ coefS st l[i] k = 0 → zerosS st k (l.take (i + 1)) = zerosS st k (l.take i) := fun h => by
        unfold zerosS; rw [List.take_succ_eq_append_getElem hb, List.filter_append]; simp [h]
      have hzl : (zerosS st k (l.take i)).length ≤ 1000000 := by
        have := List.length_filter_le (fun a => decide (coefS st a k = 0)) (l.take i)
        simp only [zerosS]; simp at this; omega
      (repeat' (first | (refine acx_dreg mixed (fun c A A' H e h => hP c A A' H e h) _ (SubH.refl _) ?_) | (simp only [↓s_skip, ↓s_reg, ↓s_seq, ↓s_cond, ↓s_condT, ↓s_block, ↓s_dreg, ↓s_nil, ↓s_consN, ↓s_thenN, ↓s_inN, ↓s_kret, ↓s_putS, ↓s_dOkS, ↓s_ev_t, ↓s_ev_c, ↓s_upd, ↓s_move, ↓s_assign, ↓s_load, ↓s_nilCheck, ↓s_bin, ↓s_buildSlice, ↓s_fieldAddr, ↓s_indexAddr, ↓s_callB, ↓s_append, ↓s_bin_lss, ↓s_bin_eql, ↓s_bin_add, vcNil, ptrV, List.map_cons, List.map_nil, List.length_cons, List.length_nil, List.append_nil, ite_true, ite_false, Nat.reduceEqDiff, Nat.reduceLT, Nat.reduceLeDiff, ne_eq, not_false_eq_true, true_and, Nat.succ_ne_self, decide_true, decide_false, reduceCtorEq, Int.natCast_nonneg, Int.toNat_natCast, Nat.mul_one, ↓s_plFin, ↓s_plTkN, fillV, setAt, eq_self, Nat.zero_add, Nat.add_zero, List.drop, and_self, ldV_f, Int.ofNat_lt, cl_int, List.set_cons_zero, Nat.le_refl, n_ldI, n_ldP, n_faP, n_ixS, n_ixL, n_ixA1, n_ixA2, n_ldA, n_ldC, n_ldB, n_faA, ↓s_plK, vcBuildSlice, List.replicate_succ, List.replicate_zero, List.flatten_cons, List.flatten_nil, ints_drop, rows_dropZ, flT_77_0, flT_74_2, flT_50_0, ldT_71, ldT_3, ldT_31, ldT_37, zeroT_3, elT_37, elT_31, *]) | (refine condL_splitD ?_ ?_ <;> intro) | (with_reducible refine And.intro ?_ ?_)))
      · obtain ⟨H0, hr0, hoH⟩ := hst'.over ho
        refine append_own elT_37 zeroT_3 rfl (by omega) hoH rfl rfl (by omega) (by omega) (fun v2 H2 ho2 => ?_)
        obtain ⟨C2, ho3, hst2⟩ := hr0.under ho2
        have c72 : C2 r7 = some (.cells 37 [v] 0) := ho3.sub _ _ (AH.set_same _ _ _)
        have q72 := hst2.sub _ _ c72
        have x1 := ho3.cells.1
        have x2 := ho3.cells.2
        (repeat' (first | (simp only [↓s_reg, ↓s_nil, ↓s_consN, ↓s_thenN, ↓s_inN, ↓s_kret, ↓s_putS, ↓s_putN, ↓s_dOkS, ↓s_dOkN, ↓s_ev_t, ↓s_ev_c, ↓s_upd, ↓s_move, ↓s_store, ↓s_bin, ↓s_bin_add, ptrV, List.length_cons, List.length_nil, ite_true, ite_false, Nat.reduceEqDiff, Nat.reduceLT, true_and, Nat.succ_ne_self, setAt, List.all_cons, List.all_nil, Bool.and_self, eq_self, Nat.zero_add, List.set_cons_zero, Nat.le_refl, n_stP, n_stA, szT_37, *]) | (with_reducible refine And.intro ?_ ?_)))
        · refine ⟨?_, ?_, ?_, ?_, ?_, ?_, ?_⟩
          all_goals simp only [s_upd, Nat.reduceEqDiff, if_false, *]
        · rw [wrap_ok (n := (i : Int) + 1) (by omega) (by omega)]
          refine ⟨i + 1, v2, C2.set r7 (.cells 37 [v2] 0), by omega, rfl, ?_, hst2.storeB c72 _⟩
          have := ho3.put (AH.set_same _ _ _) (.cells 37 [v2] 0)
          rw [AH.set_set] at this
          rw [hT (by assumption), encC_snoc, List.length_append]
          exact this
        · rw [wrap_ok (n := (i : Int) + 1) (by omega) (by omega)]; omega
      · refine ⟨?_, ?_, ?_, ?_, ?_, ?_, ?_⟩
        all_goals simp only [s_upd, Nat.reduceEqDiff, if_false, *]
      · rw [wrap_ok (n := (i : Int) + 1) (by omega) (by omega)]
        exact ⟨i + 1, v, C', by omega, rfl, by rw [hF (by assumption)]; exact ho, hst'⟩
      · rw [wrap_ok (n := (i : Int) + 1) (by omega) (by omega)]; omega
    · rw [List.take_of_length_le (by omega)] at ho
      (repeat' (first | (simp only [↓s_reg, ↓s_seq, ↓s_cond, ↓s_condF, ↓s_exit, ↓s_nil, ↓s_consN, ↓s_thenN, ↓s_thenE, ↓s_inE, ↓s_kret, ↓s_putS, ↓s_dOkS, ↓s_ev_t, ↓s_upd, ↓s_bin, ↓s_bin_lss, ite_true, Nat.reduceLT, true_and, decide_false, eq_self, Int.ofNat_lt, *])))
      refine hk' _ v C' H' ⟨?_, ?_, ?_, ?_, ?_, ?_, ?_⟩ ho hst'
      all_goals simp only [s_upd, Nat.reduceEqDiff, if_false, *]
end Go.PV.Ytefpjfpelicedaa
end
section
/- Rows and numbers in a block; lists yielded. -/
set_option linter.unusedVariables false
set_option linter.unusedSimpArgs false
set_option maxRecDepth 20000
set_option maxHeartbeats 4000000
namespace Go.PV.Ytefpjfpelicedaa
open Go Go.Proofs
theorem over71m (r : Row) (x : List Int) (hx : r.c.length ≤ x.length) (hn : (r.c.length : Int) ≤ 9223372036854775806) {H : AH} {g gx c sx : Nat} {ex : TypeId} (hg : H g = some (.cells 37 [.lit (.slice (some ⟨gx, 0, none⟩) x.length c)] 0)) (hgx : H gx = some (.cells ex (encC intE x) sx)) : ReadF Try.prog 71 [rowV r, ptrV g 0] (boolV (over x r)) H := by
  unfold ReadF
  have hB : ∀ r, H r = none → ¬ g = r := fun r hr => (AH.ne_of hg hr).1
  have hB' : ∀ r, H r = none → ¬ r = g := fun r hr => (AH.ne_of hg hr).2
  have hC : ∀ r, H r = none → ¬ gx = r := fun r hr => (AH.ne_of hgx hr).1
  have hC' : ∀ r, H r = none → ¬ r = gx := fun r hr => (AH.ne_of hgx hr).2
  refine vcalls_intro fd71 (by simp) ?_
  unfold c71
  (repeat' (first | (simp only [↓s_reg, ↓s_seq, ↓s_seqL, ↓s_block, ↓s_loop, ↓s_nil, ↓s_consN, ↓s_thenN, ↓s_kret, ↓s_putS, ↓s_dOkS, ↓s_ev_t, ↓s_ev_c, ↓s_upd, ↓s_move, ↓s_assign, ↓s_load, ↓s_box, ↓s_fieldAddr, ↓s_callB, ↓s_len, ptrV, intV, boolV, List.map_cons, List.map_nil, List.getD_cons_zero, List.getD_cons_succ, List.getD_nil, ite_true, ite_false, Nat.reduceEqDiff, Nat.reduceLT, ne_eq, not_false_eq_true, true_and, Nat.succ_ne_self, reduceCtorEq, undefV, AH.get, eq_self, Nat.add_zero, List.drop, ldV_f, cl_agg, ↓n_box, n_ldP, n_faP, n_lenS, n_ldA, n_ldB, n_faA, undef, flT_50_0, ldT_37, elT_37, *]) | (refine allNew_intro fun zr zh => ?_; have zg := zh; (try simp only [AH.set_none] at zg))))
  refine acx_loop (fun _ _ _ h => h) (fun A H' => H' = H.set zr (.cells 50 (rowE r) 0) ∧ A.d = [] ∧ A.t 1 = ptrV g 0 ∧ A.t 2 = ptrV zr 0 ∧ A.t 8 = intsV r.c ∧ A.t 9 = iV r.c.length ∧ ∃ (i : Nat) (s : Int), i ≤ r.c.length ∧ A.t 10 = iV i ∧ A.t 4 = iV s ∧ dotGo r.c x 0 = dotGo (r.c.drop i) (x.drop i) s)
    (fun A _ => match A.t 10 with | .lit (.int _ i) => ((r.c.length : Int) - i).toNat | _ => 0) ?_ ?_
  · exact ⟨rfl, rfl, rfl, rfl, rfl, rfl, 0, 0, by simp, rfl, rfl, rfl⟩
  · rintro ⟨t, d⟩ H' ⟨rfl, rfl, h1, h2, h8, h9, i, s, hi, h10, h4, hgo⟩
    dsimp only at h1 h2 h8 h9 h10 h4
    have hx2 : i < r.c.length → i < x.length := fun h => by omega
    (repeat' (first | (simp only [↓s_skip, ↓s_reg, ↓s_seq, ↓s_cond, ↓s_block, ↓s_exit, ↓s_ret, ↓s_nil, ↓s_consN, ↓s_thenN, ↓s_thenE, ↓s_inN, ↓s_inE, ↓s_kret, ↓s_putS, ↓s_dOkS, ↓s_ev_t, ↓s_ev_c, ↓s_upd, ↓s_move, ↓s_assign, ↓s_load, ↓s_bin, ↓s_fieldAddr, ↓s_indexAddr, ↓s_bin_lss, ↓s_bin_gtr, ↓s_bin_add, ↓s_bin_mul, ptrV, ite_true, ite_false, Nat.reduceEqDiff, Nat.reduceLT, ne_eq, not_false_eq_true, true_and, Nat.succ_ne_self, decide_true, decide_false, Int.natCast_nonneg, Int.toNat_natCast, Nat.mul_one, AH.get, eq_self, Nat.zero_add, List.drop, and_self, ldV_f, Int.ofNat_lt, n_ldI, n_ldP, n_faP, n_ixS, n_ixL, n_ixA1, n_ixA2, n_ldA, n_ldC, n_ldB, n_faA, ints_drop, flT_50_1, ldT_37, ldT_3, elT_37, *]) | (refine condL_splitD ?_ ?_ <;> intro) | (refine ret_tmp ?_) | (refine acx_go rfl (fun _ _ _ h => h) ?_)))
    · have hb : i < r.c.length := by assumption
      rw [wrap_ok (by omega) (by omega)]
      refine ⟨⟨i + 1, W (s + W (r.c[i] * x[i]'(hx2 hb))), by omega, by simp, rfl, ?_⟩, by omega⟩
      rw [List.drop_eq_getElem_cons hb, List.drop_eq_getElem_cons (hx2 hb)]; rfl
    · have : dotGo r.c x 0 = s := by rw [hgo, List.drop_eq_nil_of_le (by omega)]; cases x.drop i <;> rfl
      rw [over, this]
      exact ⟨rfl, SubH.new (by assumption)⟩
theorem fulfilled49m (l : List Row) (x : List Int) (hx : ∀ r ∈ l, r.c.length ≤ x.length) (hn : (l.length : Int) ≤ 9223372036854775806) (hx' : (x.length : Int) ≤ 9223372036854775806) {H : AH} {gx c sx : Nat} {ex : TypeId} (hgx : H gx = some (.cells ex (encC intE x) sx)) :
    ReadF Try.prog 49 [rowsV l, .lit (.slice (some ⟨gx, 0, none⟩) x.length c)] (boolV (!(l.any (over x)))) H := by
  unfold ReadF
  refine vcalls_intro fd49 (by simp) ?_
  unfold c49
  have hC : ∀ r, H r = none → ¬ gx = r := fun r hr => (AH.ne_of hgx hr).1
  (repeat' (first | (simp only [↓s_reg, ↓s_seq, ↓s_nil, ↓s_consN, ↓s_thenN, ↓s_kret, ↓s_putS, ↓s_dOkS, ↓s_ev_t, ↓s_ev_c, ↓s_ev_f, ↓s_upd, ↓s_move, ↓s_assign, ↓s_box, ↓s_makeFunc, ↓s_callV, ↓s_callL, ptrV, boolV, List.map_cons, List.map_nil, List.getD_cons_zero, List.getD_cons_succ, List.getD_nil, ite_true, ite_false, Nat.reduceEqDiff, Nat.reduceLT, true_and, Nat.succ_ne_self, reduceCtorEq, undefV, eq_self, cl_sl, ↓n_box, undef, en_70, *]) | (refine allNew_intro fun zr zh => ?_; have zg := zh; (try simp only [AH.set_none] at zg))))
  refine contains70 (p := over x) hn (fun r hr => FnAt.cap en_71 fun K hK => ?_) ?_
  · exact (over71m r x (hx r hr) (by have := hx r hr; omega) (AH.set_same _ _ _) (by rw [AH.get, if_neg (hC _ (by assumption))]; exact hgx)).use hK
  · (repeat' (first | (simp only [↓s_ret, ↓s_nil, ↓s_consN, ↓s_thenN, ↓s_kret, ↓s_putS, ↓s_dOkS, ↓s_ev_t, ↓s_upd, ↓s_assign, ↓s_un, ↓s_un_not, boolV, List.getD_cons_succ, List.getD_nil, ite_true, ite_false, Nat.reduceEqDiff, Nat.reduceLT, true_and, Nat.succ_ne_self, eq_self, *]) | (refine ret_tmp ?_) | (exact SubH.refl _) | (refine SubH.of_set ?_ ?_)))
/-- What yields the lists: 'y' is what is called for each of them. -/
theorem lists73 {y : VV} {n : Nat} {b : Int} {rn rb : Nat} {p : List Int → Bool} {Inv : AH → Prop} {Stop : Nat → List Int → AH → Prop} {H : AH} {K : VE → AH → Prop} (hn : (n : Int) ≤ 1000) (hb : 0 ≤ b) (hb2 : b ≤ 1000)
    (hI : Inv H) (hbox : ∀ B, Inv B → B rn = some (.cells 3 [iV n] 0) ∧ B rb = some (.cells 3 [iV b] 0))
    (hy : ∀ B g x, x.length = n → Inv B → B g = none → ∀ K', (p x = false → ∀ B', Inv B' → B' g = none → K' (.ret (boolV true)) (B'.set g (.cells 3 (encC intE x) 0))) → (p x = true → ∀ H', Stop g x H' → K' (.ret (boolV false)) H') →
      ACall Try.prog none y [.lit (.slice (some ⟨g, 0, none⟩) n n)] (B.set g (.cells 3 (encC intE x) 0)) K')
    (hyl : ∀ B xs K', vcCall Try.prog none y xs B K' = ACall Try.prog none y xs B K')
    (hEnd : fromL p b (List.replicate n 0) = none → ∀ B u, Inv B → K (.ret u) B) (hStop : ∀ x g B u, fromL p b (List.replicate n 0) = some x → Stop g x B → K (.ret u) B) :
    VCalls Try.prog 73 [y, ptrV rn 0, ptrV rb 0] H K := by
  refine vcalls_intro fd73 (by simp) ?_
  unfold c73
  obtain ⟨k1, k2⟩ := hbox H hI
  have h1 : (0 : Int) ≤ n := by omega
  have h2 : ((8 : Nat) : Int) * n ≤ 281474976710656 := by omega
  have h3 : (n : Int) ≤ 9223372036854775807 := by omega
  (repeat' (first | (simp only [↓s_reg, ↓s_seq, ↓s_block, ↓s_loop, ↓s_nil, ↓s_consN, ↓s_thenN, ↓s_kret, ↓s_putS, ↓s_dOkS, ↓s_ev_t, ↓s_upd, ↓s_assign, ↓s_load, ↓s_makeSlice, ptrV, List.length_cons, List.length_nil, List.getD_cons_zero, List.getD_cons_succ, List.getD_nil, ite_true, ite_false, Nat.reduceLT, true_and, Nat.succ_ne_self, Int.toNat_natCast, undefV, eq_self, Nat.zero_add, List.drop, ldV_f, Int.ofNat_le, ↓n_make, n_makeS, n_makeT, Nat.le_refl, n_ldP, n_ldA, n_ldB, undef, zeros_int, ldT_3, elT_37, zeroT_3, *]) | (refine allNew_intro fun zr zh => ?_; have zg := zh; (try simp only [AH.set_none] at zg))))
  revert zr
  intro g zh0 zg0
  refine acx_loopN (fun _ _ _ h => h) (fun m A H' => A.d = [] ∧ A.t 0 = y ∧ A.t 1 = ptrV rn 0 ∧ A.t 2 = ptrV rb 0 ∧ A.t 4 = .lit (.slice (some ⟨g, 0, none⟩) n n) ∧ ∃ x B, x.length = n ∧ Within b x ∧ Inv B ∧ B g = none ∧ H' = B.set g (.cells 3 (encC intE x) 0) ∧ m = rank b x ∧ fromL p b (List.replicate n 0) = fromL p b x) (n0 := rank b (List.replicate n 0)) ?_ ?_
  · refine ⟨rfl, rfl, rfl, rfl, rfl, List.replicate n 0, H, by simp, ?_, hI, zh0, rfl, rfl, rfl⟩
    intro c hc
    rw [List.eq_of_mem_replicate hc]; omega
  · rintro m ⟨t, d⟩ H' ⟨rfl, h0, h1, h2, h4, x, B, hx, hw, hIB, hBg, rfl, rfl, hfr⟩ R hR
    dsimp only at h0 h1 h2 h4
    obtain ⟨k1, k2⟩ := hbox B hIB
    unfold b73_2
    (repeat' (first | (simp only [↓s_reg, ↓s_seq, ↓s_block, ↓s_consN, ↓s_putS, ↓s_dOkS, ↓s_ev_t, ↓s_upd, ↓s_move, ↓s_callV, List.map_cons, List.map_nil, ite_true, ite_false, Nat.reduceEqDiff, Nat.reduceLT, true_and, Nat.succ_ne_self, eq_self, *])))
    refine hy B g x hx hIB hBg _ (fun hp B' hIB' hBg' => ?_) (fun hp H' hst => ?_)
    · clear k1 k2
      obtain ⟨k1, k2⟩ := hbox B' hIB'
      have n1 : ¬ rn = g := (AH.ne_of k1 hBg').1
      have n2 : ¬ rb = g := (AH.ne_of k2 hBg').1
      have hwn : IntKind.i64.wrap ((n : Int) - 1) = (n : Int) - 1 := wrap_ok (by omega) (by omega)
      (repeat' (first | (simp only [↓s_skip, ↓s_reg, ↓s_seq, ↓s_seqL, ↓s_cond, ↓s_condF, ↓s_block, ↓s_loop, ↓s_nil, ↓s_consN, ↓s_thenN, ↓s_kret, ↓s_putS, ↓s_dOkS, ↓s_ev_t, ↓s_ev_c, ↓s_upd, ↓s_assign, ↓s_load, ↓s_bin, ↓s_un, ↓s_un_not, ↓s_bin_sub, ptrV, boolV, ite_true, ite_false, Nat.reduceEqDiff, Nat.reduceLT, true_and, Nat.succ_ne_self, Bool.not_true, AH.get, eq_self, List.drop, ldV_f, n_ldP, n_ldA, n_ldB, ldT_3, *])))
      refine acx_loop (fun _ _ _ h => h) (fun A H' => A.d = [] ∧ A.t 0 = y ∧ A.t 1 = ptrV rn 0 ∧ A.t 2 = ptrV rb 0 ∧ A.t 4 = .lit (.slice (some ⟨g, 0, none⟩) n n) ∧ ∃ k, k ≤ n ∧ A.t 5 = iV ((k : Int) - 1) ∧ H' = B'.set g (.cells 3 (encC intE (x.take k ++ List.replicate (n - k) 0)) 0) ∧ ∀ j (h : j < x.length), k ≤ j → x[j] = b)
        (fun A _ => match A.t 5 with | .lit (.int _ i) => (i + 1).toNat | _ => 0) ?_ ?_
      · refine ⟨rfl, ?_, ?_, ?_, ?_, n, Nat.le_refl _, ?_, ?_, fun j h hj => by omega⟩
        · simp only [s_upd, Nat.reduceEqDiff, if_false, h0]
        · simp only [s_upd, Nat.reduceEqDiff, if_false, h1]
        · simp only [s_upd, Nat.reduceEqDiff, if_false, h2]
        · simp only [s_upd, Nat.reduceEqDiff, if_false, h4]
        · simp only [s_upd, if_true]
        · simp [← hx]
      · clear h0 h1 h2 h4
        rintro ⟨t, d⟩ H' ⟨rfl, h0, h1, h2, h4, k, hk, h5, rfl, hall⟩
        dsimp only at h0 h1 h2 h4 h5
        unfold b73_1
        rcases k with _ | j
        · replace h5 : t 5 = iV (-1) := by rw [h5]; rfl
          (repeat' (first | (simp only [↓s_seq, ↓s_cond, ↓s_condF, ↓s_exit, ↓s_dreg, ↓s_nil, ↓s_consN, ↓s_consG, ↓s_guardFT, ↓s_thenN, ↓s_thenE, ↓s_inE, ↓s_kret, ↓s_putS, ↓s_dOkS, ↓s_ev_t, ↓s_ev_c, ↓s_upd, ↓s_move, ↓s_isBool, ↓s_pickA, ↓s_pick, ↓s_bin, ↓s_bin_geq, ptrV, List.nil_append, ite_true, ite_false, Nat.reduceEqDiff, Nat.reduceLT, true_and, Bool.false_eq_true, Nat.succ_ne_self, decide_false, reduceCtorEq, callOk, undefV, ↓s_plFin, ↓s_plTkN, ↓s_plTkG, eq_self, List.take, ↓s_plK, ↓s_guardPFT, undef, Int.reduceLE, Int.reduceNeg, *]) | (refine acx_go rfl (fun _ _ _ h => h) ?_) | (refine acx_dreg mixed (fun _ _ _ _ e h => ⟨e.trans h.1, h.2⟩) _ (SubH.refl _) ?_)))
          unfold c73_1
          have hall0 : ∀ c ∈ x, c = b := fun c hc => by
            obtain ⟨j, hj, rfl⟩ := List.getElem_of_mem hc
            exact hall j hj (Nat.zero_le _)
          clear hall
          (repeat' (first | (simp only [↓s_reg, ↓s_seq, ↓s_cond, ↓s_condT, ↓s_ret, ↓s_nil, ↓s_consN, ↓s_thenN, ↓s_thenR, ↓s_inR, ↓s_kret, ↓s_putS, ↓s_dOkS, ↓s_ev_t, ↓s_ev_c, ↓s_upd, ↓s_move, ↓s_bin, ↓s_bin_lss, ite_true, ite_false, Nat.reduceEqDiff, Nat.reduceLT, true_and, Nat.succ_ne_self, decide_true, eq_self, Int.reduceLT, Int.reduceNeg, *])))
          exact ⟨rfl, _, B', _, rfl, GhV.forget (SubH.new hBg') _, hEnd (by rw [hfr]; exact fromL_end hp (nextL_none hall0)) B' _ hIB'⟩
        · replace h5 : t 5 = iV j := by rw [h5]; congr 3; omega
          have hj : j < x.length := by omega
          obtain ⟨z, hz⟩ : ∃ z, z = x.take (j + 1) ++ List.replicate (n - (j + 1)) 0 := ⟨_, rfl⟩
          have hzl : z.length = n := by rw [hz]; simp; omega
          have hzj : ∀ h : j < z.length, z[j] = x[j] := fun h => by
            simp only [hz]
            rw [List.getElem_append_left (by simp; omega)]; simp
          have hzs : ∀ v : Int, z.set j v = x.take j ++ v :: List.replicate (n - (j + 1)) 0 := fun v => by
            rw [hz, List.take_succ_eq_append_getElem hj, List.append_assoc, List.set_append_right _ _ (by simp; omega)]
            have e1 : j - (x.take j).length = 0 := by simp; omega
            rw [e1]; rfl
          rw [← hz]
          clear hz
          have hjn : j < n := by omega
          (repeat' (first | (simp only [↓s_skip, ↓s_reg, ↓s_seq, ↓s_cond, ↓s_block, ↓s_exit, ↓s_dreg, ↓s_nil, ↓s_consN, ↓s_consG, ↓s_guardTT, ↓s_thenN, ↓s_thenE, ↓s_inN, ↓s_inE, ↓s_kret, ↓s_putS, ↓s_putN, ↓s_dOkS, ↓s_dOkN, ↓s_ev_t, ↓s_ev_c, ↓s_upd, ↓s_move, ↓s_assign, ↓s_isBool, ↓s_pickA, ↓s_pick, ↓s_load, ↓s_store, ↓s_bin, ↓s_indexAddr, ↓s_bin_geq, ↓s_bin_eql, ↓s_bin_sub, ptrV, List.length_cons, List.length_nil, ite_true, ite_false, Nat.reduceEqDiff, Nat.reduceLT, true_and, Nat.succ_ne_self, decide_true, decide_false, reduceCtorEq, Int.natCast_nonneg, Int.toNat_natCast, Nat.mul_one, ↓s_plFin, ↓s_plTkN, ↓s_plTkG, AH.get, AH.set_set, setAt, List.all_cons, List.all_nil, Bool.and_self, eq_self, Nat.zero_add, List.drop, and_self, ldV_f, Int.ofNat_lt, cl_int, on_int, n_ldP, n_ixL, n_ixA2, n_ldA, n_ldB, n_stP, n_stA, ↓s_plK, ↓s_guardPTT, ints_drop, ints_len, ldT_3, szT_3, elT_37, *]) | (refine condL_splitD ?_ ?_ <;> intro) | (refine acx_go rfl (fun _ _ _ h => h) ?_) | (refine acx_dreg mixed (fun _ _ _ _ e h => ⟨e.trans h.1, h.2⟩) _ (SubH.refl _) ?_) | (with_reducible refine And.intro ?_ ?_)))
          · have hb1 : x[j] = b := by assumption
            refine ⟨j, by omega, ?_, ?_, ?_⟩
            · rw [wrap_ok (by omega) (by omega)]
            · have e2 : n - j = (n - (j + 1)) + 1 := by omega
              rw [e2, List.replicate_succ, ← hzs, ← ints_set]
            · intro j' h hj'
              by_cases e : j' = j
              · subst e; exact hb1
              · exact hall j' (by omega) (by omega)
          · rw [wrap_ok (by omega) (by omega)]; omega
          · have hb1 : ¬ x[j] = b := by assumption
            have hnx := nextL_at (b := b) hj hb1 (fun j' h hj' => hall j' h (by omega))
            have hxj := hw _ (List.getElem_mem hj)
            have hwr : IntKind.i64.wrap (x[j] + 1) = x[j] + 1 := wrap_ok (by omega) (by omega)
            unfold c73_1
            (repeat' (first | (simp only [↓s_skip, ↓s_reg, ↓s_seq, ↓s_cond, ↓s_ret, ↓s_nil, ↓s_consN, ↓s_thenN, ↓s_thenR, ↓s_inN, ↓s_inR, ↓s_kret, ↓s_putS, ↓s_putN, ↓s_dOkS, ↓s_dOkN, ↓s_ev_t, ↓s_ev_c, ↓s_upd, ↓s_move, ↓s_load, ↓s_store, ↓s_bin, ↓s_indexAddr, ↓s_bin_lss, ↓s_bin_add, List.length_cons, List.length_nil, ite_true, ite_false, Nat.reduceEqDiff, Nat.reduceLT, true_and, Nat.succ_ne_self, decide_true, decide_false, Int.natCast_nonneg, Int.toNat_natCast, Nat.mul_one, AH.get, AH.set_set, setAt, List.all_cons, List.all_nil, Bool.and_self, eq_self, Nat.zero_add, and_self, ldV_f, Int.ofNat_lt, cl_int, on_int, n_ldP, n_ixL, n_ixA2, n_ldA, n_ldB, n_stP, n_stA, ints_drop, ints_len, ldT_3, szT_3, elT_37, *]) | (refine condL_splitD ?_ ?_ <;> intro)))
            · omega
            · have hnx2 : nextL b x = some (z.set j (x[j] + 1)) := by rw [hnx, hzs, hx, show n - j - 1 = n - (j + 1) from by omega]
              refine hR (rank b (z.set j (x[j] + 1))) _ _ (nextL_rank hb hw hnx2) ⟨rfl, ?_, ?_, ?_, ?_, z.set j (x[j] + 1), B', by simpa using hzl, nextL_within hb hw hnx2, hIB', hBg', by rw [← ints_set], rfl, by rw [hfr]; exact fromL_next hb hw hp hnx2⟩
              all_goals simp only [s_upd, Nat.reduceEqDiff, if_false, h0, h1, h2, h4]
    · (repeat' (first | (simp only [↓s_cond, ↓s_condT, ↓s_ret, ↓s_nil, ↓s_consN, ↓s_thenN, ↓s_thenR, ↓s_inR, ↓s_kret, ↓s_putS, ↓s_dOkS, ↓s_ev_t, ↓s_upd, ↓s_un, ↓s_un_not, boolV, ite_true, ite_false, Nat.reduceEqDiff, Nat.reduceLT, true_and, Nat.succ_ne_self, Bool.not_false, eq_self, *])))
      refine ⟨rfl, _, H', _, rfl, .refl _ _, hStop x g H' _ (by rw [hfr]; exact fromL_hit hp) hst⟩
end Go.PV.Ytefpjfpelicedaa
end
