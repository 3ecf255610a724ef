/- Part 4 of 9 of what the proof of Matches needs. -/
import Derived.Test.YtglpmlbbaedbiaaMatches2
import Derived.OrdersIn
import Derived.RangeFuncLeaves
import Derived.RangeFuncRecord
import Derived.RecoverIn
import Derived.Laws.BitsLemmas
section
/- Rules for steps, one for each form, to be used from the outside in. -/
set_option linter.unusedVariables false
set_option linter.unusedSimpArgs false
namespace Go.PV
section
variable {cx : Cx} {Q : APost} {A : AF} {H : AH} {K : AF → AH → Prop} {P : Program}
theorem s_skip : vc cx .skip Q A H = Q .normal A H := by simp [vc]
theorem s_reg (l : List GOp) : vc cx (.reg l) Q A H = vcL cx l Q A H := by simp [vc]
theorem s_seq (a b : ACode) : vc cx (.seq a b) Q A H = vc cx a (thenA (vc cx b Q) Q) A H := by simp [vc]
theorem s_seqL (a b : ACode) : vc cx (.seqL a b) Q A H = vc cx a (thenA (ACx cx b Q) Q) A H := by simp [vc]
def condL (x : VV) (cx : Cx) (a b : ACode) (Q : APost) (A : AF) (H : AH) : Prop := match x with | .lit (.bool t) => (if t = true then vc cx a Q A H else vc cx b Q A H) | _ => False
theorem s_cond (c : Operand) (a b : ACode) : vc cx (.cond c a b) Q A H = condL (A.eval c) cx a b Q A H := by simp only [vc]; rfl
theorem condL_split {t : Bool} {a b : ACode} (h : t = true → vc cx a Q A H) (k : t = false → vc cx b Q A H) : condL (.lit (.bool t)) cx a b Q A H := by cases t; exact k rfl; exact h rfl
theorem condL_splitD {c : Prop} {dc : Decidable c} {a b : ACode} (h : c → vc cx a Q A H) (k : ¬ c → vc cx b Q A H) : condL (.lit (.bool (decide c))) cx a b Q A H := by
  by_cases hc : c
  · rw [decide_eq_true hc]; exact h hc
  · rw [decide_eq_false hc]; exact k hc
theorem s_condT (a b : ACode) : condL (.lit (.bool true)) cx a b Q A H = vc cx a Q A H := rfl
theorem s_condF (a b : ACode) : condL (.lit (.bool false)) cx a b Q A H = vc cx b Q A H := rfl
theorem s_block (id : Nat) (a : ACode) : vc cx (.block id a) Q A H = vc cx a (inBlockA id Q) A H := by simp [vc]
theorem s_exit (id : Nat) : vc cx (.exit id) Q A H = Q (.exit id) A H := by simp [vc]
theorem s_ret : vc cx .ret Q A H = Q .ret A H := by simp [vc]
theorem s_loop (a : ACode) : vc cx (.loop a) Q A H = ACx cx (.loop a) Q A H := by simp [vc]
theorem s_dreg (l : GPlan) (t : List GOp) : vc cx (.dreg l t) Q A H = ACx cx (.dreg l t) Q A H := by simp [vc]
theorem s_rfunc (f : Operand) (ps : Array Tmp) (a b : ACode) : vc cx (.rfunc f ps a b) Q A H = ACx cx (.rfunc f ps a b) Q A H := by simp [vc]
theorem s_nil : vcL cx [] Q A H = Q .normal A H := rfl
theorem s_consN (d : Option Tmp) (op : Op) (l : List GOp) : vcL cx (⟨d, op, none⟩ :: l) Q A H = vcDo cx ⟨d, op, none⟩ (vcL cx l Q) Q A H := rfl
def guardL (x : VV) (want : Bool) (cx : Cx) (d : Option Tmp) (op : Op) (l : List GOp) (Q : APost) (A : AF) (H : AH) : Prop :=
  match x with
  | .lit (.bool t) => (if t = want then vcDo cx ⟨d, op, none⟩ (vcL cx l Q) Q A H else (dOk cx.N d ∧ callOk cx.P op A ∧ vcL cx l Q (A.put d undefV) H))
  | _ => False
theorem s_consG (d : Option Tmp) (op : Op) (g : Tmp) (want : Bool) (l : List GOp) : vcL cx (⟨d, op, some (g, want)⟩ :: l) Q A H = guardL (A.t g) want cx d op l Q A H := by
  unfold guardL
  simp only [vcL, vcG]
  cases h : A.t g with
  | lit v => cases v <;> rfl
  | _ => rfl
section
variable {d : Option Tmp} {op : Op} {l : List GOp}
theorem guardL_splitTD {c : Prop} {dc : Decidable c} (h : c → vcDo cx ⟨d, op, none⟩ (vcL cx l Q) Q A H) (k : ¬ c → dOk cx.N d ∧ callOk cx.P op A ∧ vcL cx l Q (A.put d undefV) H) : guardL (.lit (.bool (decide c))) true cx d op l Q A H := by
  by_cases hc : c
  · rw [decide_eq_true hc]; exact h hc
  · rw [decide_eq_false hc]; exact k hc
theorem s_guardTT : guardL (.lit (.bool true)) true cx d op l Q A H = vcDo cx ⟨d, op, none⟩ (vcL cx l Q) Q A H := rfl
theorem s_guardTF : guardL (.lit (.bool true)) false cx d op l Q A H = (dOk cx.N d ∧ callOk cx.P op A ∧ vcL cx l Q (A.put d undefV) H) := rfl
theorem s_guardFT : guardL (.lit (.bool false)) true cx d op l Q A H = (dOk cx.N d ∧ callOk cx.P op A ∧ vcL cx l Q (A.put d undefV) H) := rfl
theorem s_guardFF : guardL (.lit (.bool false)) false cx d op l Q A H = vcDo cx ⟨d, op, none⟩ (vcL cx l Q) Q A H := rfl
end
theorem s_thenN : thenA K Q .normal A H = K A H := rfl
theorem s_thenE (id : Nat) : thenA K Q (.exit id) A H = Q (.exit id) A H := rfl
theorem s_thenR : thenA K Q .ret A H = Q .ret A H := rfl
theorem s_inN (id : Nat) : inBlockA id Q .normal A H = Q .normal A H := rfl
theorem s_inE (id i : Nat) : inBlockA id Q (.exit i) A H = (if i = id then Q .normal A H else Q (.exit i) A H) := by simp only [inBlockA]; split <;> rfl
theorem s_inR (id : Nat) : inBlockA id Q .ret A H = Q .ret A H := rfl
variable {next : AF → AH → Prop}
theorem s_kret (d : Option Tmp) (x : VV) : vcK next Q d A (.ret x) H = next (A.put d x) H := rfl
theorem s_putS (d : Nat) (x : VV) (t : Nat → VV) (ds : List Deferred) : AF.put ⟨t, ds⟩ (some d) x = ⟨upd t d x, ds⟩ := rfl
theorem s_putN (x : VV) : AF.put A none x = A := rfl
theorem s_dOkS (N d : Nat) : dOk N (some d) = (d < N) := rfl
theorem s_dOkN (N : Nat) : dOk N none = True := rfl
theorem s_ev_t (t : Nat → VV) (ds : List Deferred) (i : Nat) : AF.eval ⟨t, ds⟩ (.tmp i) = t i := rfl
theorem s_ev_c (v : Value) : A.eval (.const v) = .lit v := rfl
theorem s_ev_f (f : Nat) : A.eval (.func f) = .lit (.func (.func f) #[] #[]) := rfl
theorem s_upd (t : Nat → VV) (i j : Nat) (x : VV) : upd t i x j = if j = i then x else t j := rfl
/-! Operations. -/
variable {d : Option Tmp}
theorem s_move (x : Operand) : vcDo cx ⟨d, .move x, none⟩ next Q A H = (dOk cx.N d ∧ next (A.put d (A.eval x)) H) := rfl
theorem s_assign (x : Operand) : vcDo cx ⟨d, .assign x, none⟩ next Q A H = (dOk cx.N d ∧ next (A.put d (A.eval x)) H) := rfl
def pickA (c a b : VV) : VV := match c with | .lit (.bool t) => if t then a else b | _ => undefV
def isBoolA (c : VV) : Prop := match c with | .lit (.bool t) => True | _ => False
theorem s_isBool (t : Bool) : isBoolA (.lit (.bool t)) = True := rfl
theorem s_pickA (t : Bool) (a b : VV) : pickA (.lit (.bool t)) a b = if t = true then a else b := rfl
theorem s_pick (c a b : Operand) : vcDo cx ⟨d, .pick c a b, none⟩ next Q A H = (dOk cx.N d ∧ isBoolA (A.eval c) ∧ next (A.put d (pickA (A.eval c) (A.eval a) (A.eval b))) H) := by
  simp only [vcDo, vcOp, isBoolA, pickA]
  cases h : A.eval c with
  | lit v => cases v <;> simp [vcK]
  | _ => simp
theorem s_load (t : TypeId) (a : Operand) : vcDo cx ⟨d, .load t a, none⟩ next Q A H = (dOk cx.N d ∧ vcLoad cx.P t (A.eval a) H (vcK next Q d A)) := rfl
theorem s_store (t : TypeId) (a v : Operand) : vcDo cx ⟨d, .store t a v, none⟩ next Q A H = (dOk cx.N d ∧ vcStore cx.P t (A.eval a) (A.eval v) H (vcK next Q d A)) := rfl
theorem s_bin (op : BinOp) (t t' : TypeId) (x y : Operand) : vcDo cx ⟨d, .binOp op t x y t', none⟩ next Q A H = (dOk cx.N d ∧ vcBin cx.P op t x y (A.eval x) (A.eval y) H (vcK next Q d A)) := rfl
theorem s_un (op : UnOp) (t : TypeId) (x : Operand) : vcDo cx ⟨d, .unOp op t x, none⟩ next Q A H = (dOk cx.N d ∧ vcUn op (A.eval x) H (vcK next Q d A)) := rfl
theorem s_alloc (e : TypeId) : vcDo cx ⟨d, .alloc e, none⟩ next Q A H = (dOk cx.N d ∧ vcAlloc cx.P e H (vcK next Q d A)) := rfl
theorem s_box (e : TypeId) (x : Operand) : vcDo cx ⟨d, .box e x, none⟩ next Q A H = (dOk cx.N d ∧ vcBox e (A.eval x) H (vcK next Q d A)) := rfl
theorem s_build (t : TypeId) (ps : Array (Nat × Operand)) : vcDo cx ⟨d, .build t ps, none⟩ next Q A H = (dOk cx.N d ∧ vcBuild cx.P t (ps.toList.map fun p => (p.1, A.eval p.2)) H (vcK next Q d A)) := rfl
theorem s_buildSlice (t : TypeId) (n : Nat) (ps : Array (Nat × Operand)) : vcDo cx ⟨d, .buildSlice t n ps, none⟩ next Q A H = (dOk cx.N d ∧ vcBuildSlice cx.P t n (ps.toList.map fun p => (p.1, A.eval p.2)) H (vcK next Q d A)) := rfl
theorem s_makeFunc (fn : Fn) (first cap : Array Operand) : vcDo cx ⟨d, .makeFunc fn first cap, none⟩ next Q A H = (dOk cx.N d ∧ next (A.put d (.func fn (first.toList.map A.eval) (cap.toList.map A.eval))) H) := rfl
theorem s_makeMap (t : TypeId) : vcDo cx ⟨d, .makeMap t none, none⟩ next Q A H = (dOk cx.N d ∧ vcMakeMap cx.P t H (vcK next Q d A)) := rfl
theorem s_slice (t : TypeId) (x : Operand) (lo hi mx : Option Operand) : vcDo cx ⟨d, .slice t x lo hi mx, none⟩ next Q A H = (dOk cx.N d ∧ vcSlice cx.P t (A.eval x) (lo.map A.eval) (hi.map A.eval) (mx.map A.eval) H (vcK next Q d A)) := rfl
theorem s_fieldAddr (s : TypeId) (x : Operand) (f : Nat) : vcDo cx ⟨d, .fieldAddr s x f, none⟩ next Q A H = (dOk cx.N d ∧ vcFieldAddr cx.P s (A.eval x) f H (vcK next Q d A)) := rfl
theorem s_indexAddr (t : TypeId) (x i : Operand) : vcDo cx ⟨d, .indexAddr t x i, none⟩ next Q A H = (dOk cx.N d ∧ vcIndexAddr cx.P t (A.eval x) (A.eval i) H (vcK next Q d A)) := rfl
theorem s_lookup (t : TypeId) (m k : Operand) (ok : Bool) : vcDo cx ⟨d, .lookup t m k ok, none⟩ next Q A H = (dOk cx.N d ∧ vcLookup cx.P t (A.eval m) (A.eval k) ok H (vcK next Q d A)) := rfl
theorem s_mapUpdate (t : TypeId) (m k v : Operand) : vcDo cx ⟨d, .mapUpdate t m k v, none⟩ next Q A H = (dOk cx.N d ∧ vcUpdate cx.P t (A.eval m) (A.eval k) (A.eval v) H (vcK next Q d A)) := rfl
theorem s_extract (x : Operand) (i : Nat) : vcDo cx ⟨d, .extract x i, none⟩ next Q A H = (dOk cx.N d ∧ vcExtract (A.eval x) i H (vcK next Q d A)) := rfl
theorem s_callB (b : Builtin) (args : Array Operand) (ts : Array TypeId) : vcDo cx ⟨d, .call { callee := .builtin b, args := args, argTypes := ts }, none⟩ next Q A H = (dOk cx.N d ∧ vcBuiltin cx.P b ts.toList (args.toList.map A.eval) H (vcK next Q d A)) := rfl
theorem s_callV (f : Operand) (args : Array Operand) (ts : Array TypeId) : vcDo cx ⟨d, .call { callee := .value f, args := args, argTypes := ts }, none⟩ next Q A H = (dOk cx.N d ∧ vcCall cx.P cx.ro (A.eval f) (args.toList.map A.eval) H (vcK next Q d A)) := rfl
variable {KK : VE → AH → Prop}
theorem s_callL (ro : Option Nat) (g : FuncId) (xs : List VV) : vcCall P ro (.lit (.func (.func g) #[] #[])) xs H KK = (enterable P g = true ∧ VCalls P g xs H KK) := by simp [vcCall]
theorem s_len (t : TypeId) (x : VV) : vcBuiltin P .len [t] [x] H KK = vcLen P t x H KK := rfl
def AppendA (P : Program) (t : TypeId) (s x : VV) (H : AH) (KK : VE → AH → Prop) : Prop := vcAppend P t s x H KK ∨ vcAppendC P t s x H KK ∨ vcAppendN P t s x H KK
theorem s_append (t t' : TypeId) (s x : VV) : vcBuiltin P .append [t, t'] [s, x] H KK = (t = t' ∧ AppendA P t s x H KK) := rfl
theorem s_clear (t : TypeId) (x : VV) : vcBuiltin P .clear [t] [x] H KK = vcClear P t x H KK := rfl
theorem s_max (ts : List TypeId) (xs : List VV) : vcBuiltin P .max ts xs H KK = vcMax xs H KK := by
  match ts, xs with
  | [], _ => rfl
  | [_], [] => rfl
  | [_], [_] => rfl
  | [_], _ :: _ :: _ => rfl
  | [_, _], [] => rfl
  | [_, _], [_] => rfl
  | [_, _], [_, _] => rfl
  | [_, _], _ :: _ :: _ :: _ => rfl
  | _ :: _ :: _ :: _, _ => rfl
theorem s_min (ts : List TypeId) (xs : List VV) : vcBuiltin P .min ts xs H KK = vcMin xs H KK := by
  match ts, xs with
  | [], _ => rfl
  | [_], [] => rfl
  | [_], [_] => rfl
  | [_], _ :: _ :: _ => rfl
  | [_, _], [] => rfl
  | [_, _], [_] => rfl
  | [_, _], [_, _] => rfl
  | [_, _], _ :: _ :: _ :: _ => rfl
  | _ :: _ :: _ :: _, _ => rfl
/-! Values. -/
theorem s_un_not (b : Bool) : vcUn .not (.lit (.bool b)) H KK = KK (.ret (.lit (.bool (!b)))) H := rfl
theorem s_bin_lss (t : TypeId) (x y : Operand) (k : IntKind) (a b : Int) : vcBin P .lss t x y (.lit (.int k a)) (.lit (.int k b)) H KK = KK (.ret (.lit (.bool (decide (a < b))))) H := by simp [vcBin, binV]
theorem s_bin_gtr (t : TypeId) (x y : Operand) (k : IntKind) (a b : Int) : vcBin P .gtr t x y (.lit (.int k a)) (.lit (.int k b)) H KK = KK (.ret (.lit (.bool (decide (b < a))))) H := by simp [vcBin, binV]
theorem s_bin_geq (t : TypeId) (x y : Operand) (k : IntKind) (a b : Int) : vcBin P .geq t x y (.lit (.int k a)) (.lit (.int k b)) H KK = KK (.ret (.lit (.bool (decide (b ≤ a))))) H := by simp [vcBin, binV]
theorem s_bin_eql (t : TypeId) (x y : Operand) (k : IntKind) (a b : Int) : vcBin P .eql t x y (.lit (.int k a)) (.lit (.int k b)) H KK = KK (.ret (.lit (.bool (decide (a = b))))) H := by
  simp only [vcBin, binV, if_true]
  rw [show (a == b) = decide (a = b) from by rw [Bool.eq_iff_iff]; simp]
theorem s_bin_neq (t : TypeId) (x y : Operand) (k : IntKind) (a b : Int) : vcBin P .neq t x y (.lit (.int k a)) (.lit (.int k b)) H KK = KK (.ret (.lit (.bool (!decide (a = b))))) H := by
  simp only [vcBin, binV, if_true]
  rw [show (a != b) = !decide (a = b) from by rw [Bool.eq_iff_iff]; simp]
theorem s_bin_add (t : TypeId) (x y : Operand) (k : IntKind) (a b : Int) : vcBin P .add t x y (.lit (.int k a)) (.lit (.int k b)) H KK = KK (.ret (.lit (.int k (k.wrap (a + b))))) H := by simp [vcBin, binV]
theorem s_bin_sub (t : TypeId) (x y : Operand) (k : IntKind) (a b : Int) : vcBin P .sub t x y (.lit (.int k a)) (.lit (.int k b)) H KK = KK (.ret (.lit (.int k (k.wrap (a - b))))) H := by simp [vcBin, binV]
end
def goable : ACode → Bool
  | .loop _ => false
  | .dreg _ _ => false
  | .rfunc _ _ _ _ => false
  | _ => true
theorem acx_go {cx : Cx} {Q : APost} {A : AF} {H : AH} {a : ACode} (_ : goable a = true) (hQ : noGoto Q) (h : vc cx a Q A H) : ACx cx a Q A H := vc_acx hQ h
section
variable {P : Program} {K : VE → AH → Prop} {H H' : AH} {t : Nat → VV}
theorem retPost_ret {rs : List ResultVar} {A : AF} (hd : A.d = []) {x : VV} (hx : resV P rs A H = some x) (h : K (.ret x) H) : retPost P rs K .ret A H := ⟨hd, x, H, x, hx, .refl _ _, h⟩
theorem ret_tmp {i : Nat} (h : K (.ret (t i)) H) : retPost P [.tmp i] K .ret ⟨t, []⟩ H := ⟨rfl, _, H, _, rfl, .refl _ _, h⟩
/-- What hands back one value whatever the state, and changes nothing. -/
def PureF (P : Program) (f : FuncId) (xs : List VV) (x : VV) : Prop := ∀ H, VCalls P f xs H (fun e H' => e = .ret x ∧ H' = H)
theorem PureF.use {f : FuncId} {xs : List VV} {x : VV} (h : PureF P f xs x) (k : K (.ret x) H) : VCalls P f xs H K := (h H).mono fun _ _ hq => by rw [hq.1, hq.2]; exact k
theorem PureF.forget {f : FuncId} {xs : List VV} {x : VV} (h : ∀ H, VCalls P f xs H (fun e H' => e = .ret x ∧ SubH H H')) : PureF P f xs x := fun H S w args hs hx =>
  (h H S w args hs hx).mono fun e w' hq => by
    cases e with
    | returned v =>
      obtain ⟨S', H', y, h1, h2, h3, h4, h5⟩ := hq
      exact ⟨S', H, y, h1.trans (h2.sub h5).2, (h2.sub h5).1, h3, h4, rfl⟩
    | panicked ch => obtain ⟨S', H', h1, h2, h4, h5⟩ := hq; cases h4
    | outgrown => exact hq
end
end Go.PV
end
section
/- Regions that draw their order. -/
set_option linter.unusedVariables false
set_option linter.unusedSimpArgs false
namespace Go.PV

/-! ### What an operation looks at -/
section
variable {cx : Cx} {A A' : AF} {H : AH} {K : VE → AH → Prop}
theorem map_congrA {l : List Operand} (h : ∀ x ∈ l, A'.eval x = A.eval x) : l.map A'.eval = l.map A.eval := List.map_congr_left h
theorem pairs_congrA {l : List (Nat × Operand)} (h : ∀ x ∈ l.map (·.2), A'.eval x = A.eval x) : (l.map fun p => (p.1, A'.eval p.2)) = l.map fun p => (p.1, A.eval p.2) :=
  List.map_congr_left fun p hp => by rw [h p.2 (List.mem_map.2 ⟨p, hp, rfl⟩)]
theorem opt_congrA {o : Option Operand} (h : ∀ x ∈ o.toArray, A'.eval x = A.eval x) : o.map A'.eval = o.map A.eval := by
  cases o with
  | none => rfl
  | some x => simp at h; simp [h]
theorem vcOp_congr {op : Op} (h : ∀ x ∈ op.operands, A'.eval x = A.eval x) : vcOp cx op A' H K = vcOp cx op A H K := by
  cases op with
  | build t ps =>
    simp only [Op.operands, List.mem_toArray] at h
    simp only [vcOp, pairs_congrA h]
  | buildSlice t n ps =>
    simp only [Op.operands, List.mem_toArray] at h
    simp only [vcOp, pairs_congrA h]
  | makeFunc fn first cap =>
    simp only [Op.operands, Array.mem_append] at h
    simp only [vcOp, map_congrA (A := A) (A' := A') (l := first.toList) (fun x hx => h x (.inl (by simpa using hx))), map_congrA (A := A) (A' := A') (l := cap.toList) (fun x hx => h x (.inr (by simpa using hx)))]
  | slice t x lo hi mx =>
    simp only [Op.operands, Array.mem_append] at h
    simp only [vcOp, h x (.inl (.inl (.inl (by simp)))), opt_congrA (A := A) (A' := A') (fun y hy => h y (.inl (.inl (.inr hy)))), opt_congrA (A := A) (A' := A') (fun y hy => h y (.inl (.inr hy))), opt_congrA (A := A) (A' := A') (fun y hy => h y (.inr hy))]
  | makeMap t r => cases r <;> simp only [vcOp]
  | call c =>
    obtain ⟨callee, args, ats⟩ := c
    cases callee with
    | builtin b =>
      simp only [Op.operands, Call.operands] at h
      simp only [vcOp, map_congrA (A := A) (A' := A') (l := args.toList) (fun x hx => h x (by simp; simpa using hx))]
    | value f =>
      simp only [Op.operands, Call.operands] at h
      simp only [vcOp, map_congrA (A := A) (A' := A') (l := args.toList) (fun x hx => h x (by simp; exact .inr (by simpa using hx))), h f (by simp)]
    | invoke x m =>
      simp only [Op.operands, Call.operands] at h
      simp only [vcOp, map_congrA (A := A) (A' := A') (l := args.toList) (fun x hx => h x (by simp; exact .inr (by simpa using hx))), h x (by simp)]
  | _ =>
    simp only [Op.operands] at h
    first
      | (simp only [vcOp]; done)
      | (simp only [vcOp]; rw [h _ (by simp)]; done)
      | (simp only [vcOp]; rw [h _ (by simp), h _ (by simp)]; done)
      | (simp only [vcOp]; rw [h _ (by simp), h _ (by simp), h _ (by simp)]; done)
      | (simp only [vcOp]; simp_all; done)
end
/-! ### What may be taken first -/
section
variable {cx : Cx} {A : AF} {Hh : AH} {K : VE → AH → Prop}
/-- It hands back one value at every state that has what the held one has, and changes nothing. -/
def Tk (cx : Cx) (op : Op) (A : AF) (Hh : AH) (x : VV) : Prop := ∀ H K, SubH Hh H → K (.ret x) H → vcOp cx op A H K
theorem eqOk_scal {P : Program} {t : TypeId} {x y : VV} (hs : scalT P t = true) (h : eqOk P t x y) : ∃ p q, x = .lit (.bool p) ∧ y = .lit (.bool q) := by
  unfold eqOk at h
  unfold scalT at hs
  split at h
  · exact ⟨_, _, rfl, rfl⟩
  all_goals first | exact h.elim | (obtain ⟨e, h⟩ := h; rw [h] at hs; cases hs) | (obtain ⟨k, e, h⟩ := h; rw [h] at hs; cases hs) | (obtain ⟨a, b, c, h⟩ := h; rw [h] at hs; cases hs)
theorem take_inv {op : Op} (ht : isTake cx.P op = true) (h : vcOp cx op A Hh K) : ∃ x, Tk cx op A Hh x ∧ K (.ret x) Hh := by
  cases op with
  | move x => exact ⟨_, fun _ _ _ k => k, h⟩
  | assign x => exact ⟨_, fun _ _ _ k => k, h⟩
  | makeFunc fn a b => exact ⟨_, fun _ _ _ k => k, h⟩
  | pick c a b =>
    simp only [vcOp] at h
    split at h
    · rename_i t hc
      exact ⟨_, fun H K _ k => by simp only [vcOp, hc]; exact k, h⟩
    · exact h.elim
  | load t a =>
    simp only [vcOp, vcLoad] at h
    split at h
    · rename_i n ag cs hl ha
      split at h
      · rename_i x hx
        exact ⟨x, fun H K _ k => by simp only [vcOp, vcLoad, hl, ha, hx]; exact k, h⟩
      · exact h.elim
    · rename_i n ag r o hl ha
      split at h
      · rename_i e cs sp hb
        split at h
        · rename_i x hx
          exact ⟨x, fun H K hsub k => by simp only [vcOp, vcLoad, hl, ha, hsub _ _ hb, hx]; exact k, h⟩
        · exact h.elim
      · exact h.elim
    · exact h.elim
  | nilCheck x =>
    simp only [vcOp, vcNil] at h
    split at h
    all_goals first | exact h.elim | (rename_i e; exact ⟨_, fun H K _ k => by simp only [vcOp, vcNil, e]; exact k, h⟩)
  | unOp op t x =>
    simp only [vcOp, vcUn] at h
    split at h
    · rename_i v hv
      split at h
      · rename_i r hr
        exact ⟨_, fun H K _ k => by simp only [vcOp, vcUn, hv, hr]; exact k, h⟩
      · exact h.elim
    · exact h.elim
  | convert s d x =>
    simp only [vcOp, vcConv] at h
    split at h
    · rename_i k n e
      obtain ⟨k', s', h1, h2, h3⟩ := h
      exact ⟨_, fun H K _ k => by simp only [vcOp, vcConv, e]; exact ⟨k', s', h1, h2, k⟩, h3⟩
    · rename_i b e
      obtain ⟨s', h1, h3⟩ := h
      split at h3
      · rename_i h2; exact ⟨_, fun H K _ k => by simp only [vcOp, vcConv, e, h2]; exact ⟨s', h1, k⟩, h3⟩
      · rename_i el h2; exact ⟨_, fun H K _ k => by simp only [vcOp, vcConv, e, h2]; exact ⟨s', h1, h3.1, k⟩, h3.2⟩
      · exact h3.elim
    · exact h.elim
  | makeInterface t x => exact ⟨_, fun H K _ k => ⟨h.1, k⟩, h.2⟩
  | fieldAddr s x f =>
    simp only [vcOp, vcFieldAddr] at h
    split at h
    all_goals first | exact h.elim | (rename_i e1 e2; exact ⟨_, fun H K _ k => by simp only [vcOp, vcFieldAddr, e1, e2]; exact ⟨h.1, k⟩, h.2⟩)
  | field s x f =>
    simp only [vcOp, vcField] at h
    split at h
    all_goals first | exact h.elim | (rename_i e1 e2; split at h <;> first | exact h.elim | (rename_i y hy; exact ⟨y, fun H K _ k => by simp only [vcOp, vcField, e1, e2, hy]; exact k, h⟩))
  | indexAddr t x i =>
    simp only [vcOp, vcIndexAddr] at h
    split at h
    · rename_i e1 e2 e3; exact ⟨_, fun H K _ k => by simp only [vcOp, vcIndexAddr, e1, e2, e3]; exact ⟨h.1, k⟩, h.2⟩
    · rename_i e1 e2 e3; exact ⟨_, fun H K _ k => by simp only [vcOp, vcIndexAddr, e1, e2, e3]; exact ⟨h.1, k⟩, h.2⟩
    · rename_i e1 e2 e3
      split at h
      · rename_i e4; exact ⟨_, fun H K _ k => by simp only [vcOp, vcIndexAddr, e1, e2, e3, e4]; exact ⟨h.1, k⟩, h.2⟩
      · exact h.elim
    · rename_i e1 e2 e3
      split at h
      · rename_i e4; exact ⟨_, fun H K _ k => by simp only [vcOp, vcIndexAddr, e1, e2, e3, e4]; exact ⟨h.1, k⟩, h.2⟩
      · exact h.elim
    · exact h.elim
  | extract x i =>
    simp only [vcOp, vcExtract] at h
    split at h
    all_goals first | exact h.elim | (rename_i e1; split at h <;> first | exact h.elim | (rename_i e2; exact ⟨_, fun H K _ k => by simp only [vcOp, vcExtract, e1, e2]; exact k, h⟩))
  | build t ps =>
    simp only [vcOp, vcBuild] at h
    split at h
    all_goals first | exact h.elim | (rename_i e1; split at h <;> first | exact h.elim | (rename_i e2; exact ⟨_, fun H K _ k => by simp only [vcOp, vcBuild, e1, e2]; exact k, h⟩))
  | buildSlice t n ps =>
    simp only [vcOp, vcBuildSlice] at h
    split at h
    · rename_i e1
      split at h
      · rename_i e2
        obtain ⟨h1, h⟩ := h
        split at h
        · rename_i e3; exact ⟨_, fun H K _ k => by simp only [vcOp, vcBuildSlice, e1, e2, e3]; exact ⟨h1, k⟩, h⟩
        · exact h.elim
      · exact h.elim
    · exact h.elim
  | index t x i =>
    simp only [vcOp, vcIndex] at h
    split at h
    · rename_i e1 e2
      obtain ⟨h1, h2, h⟩ := h
      split at h
      · rename_i e3; exact ⟨_, fun H K _ k => by simp only [vcOp, vcIndex, e1, e2, e3]; exact ⟨h1, h2, k⟩, h⟩
      · exact h.elim
    · exact h.elim
  | slice t x lo hi mx =>
    simp only [vcOp, vcSlice] at h
    split at h
    · rename_i e1; split at h
      · rename_i e2; exact ⟨_, fun H K _ k => by simp only [vcOp, vcSlice, e1, e2]; exact ⟨h.1, k⟩, h.2⟩
      · exact h.elim
    · rename_i e1; split at h
      · rename_i e2; exact ⟨_, fun H K _ k => by simp only [vcOp, vcSlice, e1, e2]; exact ⟨h.1, k⟩, h.2⟩
      · exact h.elim
    · rename_i e1; split at h
      · rename_i e2; exact ⟨_, fun H K _ k => by simp only [vcOp, vcSlice, e1, e2]; exact ⟨h.1, k⟩, h.2⟩
      · exact h.elim
    · rename_i e1; exact ⟨_, fun H K _ k => by simp only [vcOp, vcSlice, e1]; exact ⟨h.1, h.2.1, h.2.2.1, k⟩, h.2.2.2⟩
    · rename_i e1; split at h
      · rename_i e2; exact ⟨_, fun H K _ k => by simp only [vcOp, vcSlice, e1, e2]; exact ⟨h.1, k⟩, h.2⟩
      · exact h.elim
    · exact h.elim
  | binOp op t x y t' =>
    have ht : op = .eql ∨ op = .neq → scalT cx.P t = true := by rintro (rfl | rfl) <;> simpa [isTake] using ht
    generalize hA : A.eval x = X at *
    generalize hB : A.eval y = Y at *
    have key : ∀ Z : VV, (∀ H K, K (.ret Z) H → vcBin cx.P op t x y (A.eval x) (A.eval y) H K) → Tk cx (.binOp op t x y t') A Hh Z := fun Z hz H K _ k => hz H K k
    simp only [vcOp, hA, hB] at h
    rw [hA, hB] at key
    unfold vcBin at h key
    split at h
    · split at h
      · rename_i r hr; exact ⟨_, key _ (fun H K k => by simp only [hr]; exact k), h⟩
      · exact h.elim
    · split at h
      · rename_i r hr; exact ⟨_, key _ (fun H K k => by simp only [hr]; exact k), h⟩
      · exact h.elim
    · rename_i n1 n2
      split at h
      · split at h
        · rename_i xs ys h1 h2
          obtain ⟨b, hb, hk⟩ := h
          exact ⟨_, key _ (fun H K k => by simp only [h1, h2]; exact ⟨b, hb, k⟩), hk⟩
        · rename_i nn
          have hsc : scalT cx.P t = true := ht (.inl rfl)
          obtain ⟨p, q, rfl, rfl⟩ := eqOk_scal hsc h.1
          exact ⟨boolV (p == q), key _ (fun H K k => ⟨h.1, h.2.1, fun b hb => by cases hb; exact k⟩), h.2.2 _ rfl⟩
      · split at h
        · rename_i xs ys h1 h2
          obtain ⟨b, hb, hk⟩ := h
          exact ⟨_, key _ (fun H K k => by simp only [h1, h2]; exact ⟨b, hb, k⟩), hk⟩
        · rename_i nn
          have hsc : scalT cx.P t = true := ht (.inr rfl)
          obtain ⟨p, q, rfl, rfl⟩ := eqOk_scal hsc h.1
          exact ⟨boolV (!(p == q)), key _ (fun H K k => ⟨h.1, h.2.1, fun b hb => by cases hb; exact k⟩), h.2.2 _ rfl⟩
      · exact h.elim
  | call c =>
    obtain ⟨callee, args, ats⟩ := c
    cases callee with
    | builtin b =>
      cases b with
      | len =>
        have key : ∀ Z : VV, (∀ H K, K (.ret Z) H → vcBuiltin cx.P .len ats.toList (args.toList.map A.eval) H K) → Tk cx (.call { callee := .builtin .len, args := args, argTypes := ats }) A Hh Z := fun Z hz H K _ k => hz H K k
        have h : vcBuiltin cx.P .len ats.toList (args.toList.map A.eval) Hh K := h
        generalize ats.toList = ts at *
        generalize args.toList.map A.eval = xs at *
        unfold vcBuiltin at h
        split at h
        all_goals first | exact h.elim | (rename_i e; cases e; done) | skip
        · rename_i t x _
          unfold vcLen at h
          split at h
          · exact ⟨_, key _ fun H K k => ⟨h.1, k⟩, h.2⟩
          · exact ⟨_, key _ fun H K k => ⟨h.1, k⟩, h.2⟩
          · exact ⟨_, key _ fun H K k => ⟨h.1, k⟩, h.2⟩
          · exact h.elim
      | max =>
        have key : ∀ Z : VV, (∀ H K, K (.ret Z) H → vcMax (args.toList.map A.eval) H K) → Tk cx (.call { callee := .builtin .max, args := args, argTypes := ats }) A Hh Z := fun Z hz H K _ k => by
          show vcBuiltin cx.P .max ats.toList (args.toList.map A.eval) H K
          rw [s_max]
          exact hz H K k
        have h : vcBuiltin cx.P .max ats.toList (args.toList.map A.eval) Hh K := h
        rw [s_max] at h
        generalize args.toList.map A.eval = xs at *
        unfold vcMax at h
        split at h
        · exact ⟨_, key _ fun H K k => k, h⟩
        · exact h.elim
      | min =>
        have key : ∀ Z : VV, (∀ H K, K (.ret Z) H → vcMin (args.toList.map A.eval) H K) → Tk cx (.call { callee := .builtin .min, args := args, argTypes := ats }) A Hh Z := fun Z hz H K _ k => by
          show vcBuiltin cx.P .min ats.toList (args.toList.map A.eval) H K
          rw [s_min]
          exact hz H K k
        have h : vcBuiltin cx.P .min ats.toList (args.toList.map A.eval) Hh K := h
        rw [s_min] at h
        generalize args.toList.map A.eval = xs at *
        unfold vcMin at h
        split at h
        · exact ⟨_, key _ fun H K k => k, h⟩
        · exact h.elim
      | _ => cases ht
    | _ => cases ht
  | _ => cases ht
end
end Go.PV
end
section
/- Regions that draw their order: from a plan to any order. -/
set_option linter.unusedVariables false
set_option linter.unusedSimpArgs false
namespace Go.PV

/-! ### More is less -/
section
variable {cx : Cx} {A : AF} {H : AH} {K K' : VE → AH → Prop}
theorem ACall.mono {P : Program} {ro : Option Nat} {f : VV} {xs : List VV} (hk : ∀ e H, K e H → K' e H) (h : ACall P ro f xs H K) : ACall P ro f xs H K' := by
  intro S w fv args hs hf hx
  have := h S w fv args hs hf hx
  unfold CallsVal at *
  refine ⟨this.1, ?_⟩
  replace this := this.2
  split
  · rename_i g asg w' hr
    simp only [hr] at this
    exact CallsIn.mono this fun _ _ hq => hq.mono hk
  · rename_i l g ts asg body w' hr
    simp only [hr] at this
    exact RoundIn.mono this fun _ _ hq => hq.mono hk
  · rename_i n1 n2
    revert this
    split
    · rename_i e; exact absurd e (n1 _ _ _)
    · rename_i e; exact absurd e (n2 _ _ _ _ _ _)
    · exact fun h => h
theorem vcCall_mono {P : Program} {ro : Option Nat} {f : VV} {xs : List VV} (hk : ∀ e H, K e H → K' e H) (h : vcCall P ro f xs H K) : vcCall P ro f xs H K' := by
  unfold vcCall at *
  split
  · exact ⟨h.1, h.2.mono hk⟩
  · exact ⟨h.1, h.2.mono hk⟩
  · rename_i n1 n2
    revert h
    split
    · rename_i e; exact absurd rfl (n1 _ _ _)
    · rename_i e; exact absurd rfl (n2 _ _ _)
    · exact fun h => h.mono hk
theorem vcBin_mono {P : Program} {op : BinOp} {t : TypeId} {ox oy : Operand} {x y : VV} (hk : ∀ e H, K e H → K' e H) (h : vcBin P op t ox oy x y H K) : vcBin P op t ox oy x y H K' := by
  unfold vcBin at *
  split at h
  · split at h
    · exact hk _ _ h
    · exact h
  · split at h
    · exact hk _ _ h
    · exact h
  · split at h
    · split at h
      · obtain ⟨b, hb, h⟩ := h; exact ⟨b, hb, hk _ _ h⟩
      · exact ⟨h.1, h.2.1, fun b hb => hk _ _ (h.2.2 b hb)⟩
    · split at h
      · obtain ⟨b, hb, h⟩ := h; exact ⟨b, hb, hk _ _ h⟩
      · exact ⟨h.1, h.2.1, fun b hb => hk _ _ (h.2.2 b hb)⟩
    · exact h
theorem vcAssert_mono {P : Program} {x : VV} {t : TypeId} {ok : Bool} (hk : ∀ e H, K e H → K' e H) (h : vcAssert P x t ok H K) : vcAssert P x t ok H K' := by
  unfold vcAssert at *
  refine ⟨h.1, ?_⟩
  have h := h.2
  split at h
  · split at h
    · rename_i e; rw [if_pos e]; exact hk _ _ h
    · rename_i e; rw [if_neg e]
      refine ⟨h.1, ?_⟩
      have h := h.2
      split at h
      · exact hk _ _ h
      · exact h
  · split at h
    · rename_i e; rw [if_pos e]; exact hk _ _ h
    · rename_i e; rw [if_neg e]
      refine ⟨h.1, ?_⟩
      have h := h.2
      split at h
      · exact hk _ _ h
      · exact h
  · refine ⟨h.1, ?_⟩
    have h := h.2
    split at h
    · exact hk _ _ h
    · exact h
  · exact h
theorem vcOp_mono {op : Op} (hk : ∀ e H, K e H → K' e H) (h : vcOp cx op A H K) : vcOp cx op A H K' := by
  by_cases ht : isTake cx.P op = true
  · obtain ⟨x, h1, h2⟩ := take_inv ht h
    exact h1 H K' (SubH.refl H) (hk _ _ h2)
  · cases op with
    | store t a v =>
      simp only [vcOp, vcStore] at *
      split at h
      · split at h
        · exact ⟨h.1, h.2.1, h.2.2.1, hk _ _ h.2.2.2⟩
        · exact h
      · exact h
    | binOp op t x y t' => exact vcBin_mono hk h
    | alloc e =>
      simp only [vcOp, vcAlloc] at *
      split at h
      · exact fun r hr => hk _ _ (h r hr)
      · exact h
    | box e x => exact fun r hr => hk _ _ (h r hr)
    | buildSlice t n ps =>
      simp only [vcOp, vcBuildSlice] at *
      split at h
      · split at h
        · refine ⟨h.1, ?_⟩
          have h := h.2
          split at h
          · exact hk _ _ h
          · exact h
        · exact h
      · exact h
    | makeSlice t l c =>
      simp only [vcOp, vcMake] at *
      split at h
      · split at h
        · exact ⟨h.1, h.2.1, h.2.2.1, h.2.2.2.1, h.2.2.2.2.1, fun r hr => hk _ _ (h.2.2.2.2.2 r hr)⟩
        · exact h
      · exact h
    | typeAssert x s t ok => exact vcAssert_mono hk h
    | makeMap t r =>
      cases r with
      | none => exact fun r hr => hk _ _ (h r hr)
      | some r => exact h
    | lookup t m k ok =>
      simp only [vcOp, vcLookup] at *
      obtain ⟨z, h1, kv, h2, h3, h⟩ := h
      refine ⟨z, h1, kv, h2, h3, ?_⟩
      split at h
      · exact hk _ _ h
      · split at h
        · refine ⟨h.1, ?_⟩
          have h := h.2
          split at h
          · exact hk _ _ h
          · exact hk _ _ h
        · exact h
      · exact h
    | mapUpdate t m k v =>
      simp only [vcOp, vcUpdate] at *
      obtain ⟨z, h1, kv, h2, h3, h⟩ := h
      refine ⟨z, h1, kv, h2, h3, ?_⟩
      split at h
      · split at h
        · exact ⟨h.1, h.2.1, hk _ _ h.2.2⟩
        · exact h
      · exact h
    | insert t m k v =>
      simp only [vcOp, vcUpdate] at *
      obtain ⟨z, h1, kv, h2, h3, h⟩ := h
      refine ⟨z, h1, kv, h2, h3, ?_⟩
      split at h
      · split at h
        · exact ⟨h.1, h.2.1, hk _ _ h.2.2⟩
        · exact h
      · exact h
    | panic x =>
      simp only [vcOp] at *
      split at h
      · exact hk _ _ h
      · exact h
    | call c =>
      obtain ⟨callee, args, ats⟩ := c
      cases callee with
      | builtin b =>
        simp only [vcOp] at *
        unfold vcBuiltin at *
        split at h
        · unfold vcLen at *
          split at h
          · exact ⟨h.1, hk _ _ h.2⟩
          · exact ⟨h.1, hk _ _ h.2⟩
          · exact ⟨h.1, hk _ _ h.2⟩
          · exact h
        · refine ⟨h.1, ?_⟩
          rcases h.2 with h | h | h
          · obtain ⟨e, k, b, zs, H0, n, cs, m, news, h1, h2, h3, h4, h5, h6, h7, h8, h9, h10⟩ := h
            exact .inl ⟨e, k, b, zs, H0, n, cs, m, news, h1, h2, h3, h4, h5, h6, h7, h8, h9, fun v' H' ho => hk _ _ (h10 v' H' ho)⟩
          · obtain ⟨e, k, b, zs, n, cs, m, news, h1, h2, h3, h4, h5, h6, h7, h8, h9, h10, h11, h12⟩ := h
            exact .inr (.inl ⟨e, k, b, zs, n, cs, m, news, h1, h2, h3, h4, h5, h6, h7, h8, h9, h10, fun hm => hk _ _ (h11 hm), fun hm v' H' ho => hk _ _ (h12 hm v' H' ho)⟩)
          · obtain ⟨e, k, b, zs, n, cs, m, news, h1, h2, h3, h4, h5, h6, h7, h8, h9, h10, h11⟩ := h
            exact .inr (.inr ⟨e, k, b, zs, n, cs, m, news, h1, h2, h3, h4, h5, h6, h7, h8, h9, fun hm => hk _ _ (h10 hm), fun hm v' H' ho => hk _ _ (h11 hm v' H' ho)⟩)
        · simp only [vcCopy] at *
          split at h
          · split at h
            · exact ⟨h.1, h.2.1, hk _ _ h.2.2⟩
            · exact h
          · exact h
        · unfold vcClear at *
          split at h
          · split at h
            · rename_i h0; rw [if_pos h0]; exact hk _ _ h
            · rename_i h0; rw [if_neg h0]
              split at h
              · exact ⟨h.1, h.2.1, h.2.2.1, hk _ _ h.2.2.2⟩
              · exact h
          · exact hk _ _ h
          · exact ⟨h.1, hk _ _ h.2⟩
          · exact h
        · unfold vcMax at *
          split at h
          · exact hk _ _ h
          · exact h
        · unfold vcMin at *
          split at h
          · exact hk _ _ h
          · exact h
        · exact h
      | value f => exact vcCall_mono hk h
      | invoke x m =>
        obtain ⟨g, y, h1, h2, h3⟩ := h
        exact ⟨g, y, h1, h2.mono hk, h3⟩
    | _ => first | exact absurd rfl ht | exact h
end
end Go.PV
end
section
/- Regions that draw their order: any order, and the plan that stands for all. -/
set_option linter.unusedVariables false
set_option linter.unusedSimpArgs false
namespace Go.PV
section
variable {cx : Cx} {ops : Array Oper} {Q : APost} {Hh : AH} {Hi : Nat → AH} {stop : List Nat} {full : Array Bool} {cut : Option Nat} {K : AF → AH → Prop}
def Closed (ops : Array Oper) (listed : Array Bool) : Prop := ∀ i o, listed.getD i false = true → ops[i]? = some o → ∀ e ∈ o.after, Region.binds .any e = true → listed.getD e.on false = true
theorem getD_set_le {listed : Array Bool} {i j : Nat} (h : listed.getD j false = true) : (listed.setIfInBounds i true).getD j false = true := by
  simp only [Array.getD_eq_getD_getElem?, Array.getElem?_setIfInBounds] at *
  split
  · split
    · rfl
    · rename_i h1 h2; subst h1; rw [Array.getElem?_eq_none (by omega)] at h; cases h
  · exact h
theorem getD_set_inv {listed : Array Bool} {i j : Nat} (h : (listed.setIfInBounds i true).getD j false = true) : j = i ∨ listed.getD j false = true := by
  by_cases e : j = i
  · exact .inl e
  · right
    simp only [Array.getD_eq_getD_getElem?, Array.getElem?_setIfInBounds, if_neg (Ne.symm e)] at *
    exact h
theorem Closed.none (n : Nat) : Closed ops (Array.replicate n false) := fun i o h => by
  simp only [Array.getD_eq_getD_getElem?, Array.getElem?_replicate] at h
  split at h <;> cases h
theorem Closed.set {listed : Array Bool} {i : Nat} (h : Closed ops listed) (hi : i ∈ Region.ready .any ops listed) : Closed ops (listed.setIfInBounds i true) := by
  intro j o hj ho e he hb
  refine getD_set_le ?_
  rcases getD_set_inv hj with rfl | hj
  · obtain ⟨_, o', ho', hall⟩ := mem_ready.1 hi
    rw [ho] at ho'; cases ho'
    exact hall e he hb
  · exact h j o hj ho e he hb
theorem mem_preds {k j : Nat} (h : j ∈ preds ops k) : ∃ o e, ops[k]? = some o ∧ e ∈ o.after ∧ Region.binds .any e = true ∧ e.on = j := by
  unfold preds at h
  split at h
  · rename_i o ho
    obtain ⟨e, he, h2⟩ := List.mem_filterMap.1 h
    split at h2
    · rename_i hb
      cases h2
      exact ⟨o, e, ho, by simpa using he, hb, rfl⟩
    · cases h2
  · cases h
theorem clo_listed {listed : Array Bool} (hc : Closed ops listed) : ∀ (n : Nat) (rem work : List Nat), (∀ k ∈ work, listed.getD k false = true) → ∀ x ∈ rem, x ∉ clo ops n rem work → listed.getD x false = true
  | 0, rem, work, _, x, hx, hn => absurd hx hn
  | _ + 1, rem, [], _, x, hx, hn => absurd hx hn
  | n + 1, rem, k :: work, hw, x, hx, hn => by
    simp only [clo] at hn
    split at hn
    · by_cases e : x = k
      · rw [e]; exact hw k (List.mem_cons_self ..)
      · refine clo_listed hc n _ _ ?_ x (List.mem_filter.2 ⟨hx, by simpa using e⟩) hn
        intro j hj
        rcases List.mem_append.1 hj with hj | hj
        · obtain ⟨o, e, ho, he, hb, rfl⟩ := mem_preds hj
          exact hc k o (hw k (List.mem_cons_self ..)) ho e he hb
        · exact hw j (List.mem_cons_of_mem _ hj)
    · exact clo_listed hc n _ _ (fun j hj => hw j (List.mem_cons_of_mem _ hj)) x hx hn
/-- The cut has been come to. -/
def gone (cut : Option Nat) (listed : Array Bool) : Prop := ∃ j, cut = some j ∧ listed.getD j false = true
theorem gone.set {cut : Option Nat} {listed : Array Bool} (i : Nat) (h : gone cut listed) : gone cut (listed.setIfInBounds i true) := by
  obtain ⟨j, h1, h2⟩ := h
  exact ⟨j, h1, getD_set_le h2⟩
def AOp (cx : Cx) (ops : Array Oper) (Q : APost) (i : Nat) (next : AF → AH → Prop) (A : AF) (H : AH) : Prop :=
  match ops[i]? with
  | none => False
  | some o => vcG cx (gopOf ops o) next Q A H
def AAny (cx : Cx) (ops : Array Oper) (Q : APost) (Hi : Nat → AH) (stop : List Nat) (full : Array Bool) (cut : Option Nat) (K : AF → AH → Prop) : Nat → Array Bool → AF → AH → Prop
  | 0, listed, A, H => rdy ops stop listed = [] ∧ listed = full ∧ K A H
  | n + 1, listed, A, H => (rdy ops stop listed = [] → listed = full ∧ K A H) ∧
      ∀ i ∈ rdy ops stop listed, AOp cx ops Q i (fun A' H' => (gone cut (listed.setIfInBounds i true) ∨ ∀ k ∈ needOf ops i, SubH (Hi k) H → SubH (Hi k) H') ∧ AAny cx ops Q Hi stop full cut K n (listed.setIfInBounds i true) A' H') A H
theorem aop_wp {i : Nat} {next : AF → AH → Prop} {A : AF} {H : AH} {S S0 : Nat → Prop} {H0 : AH} {w w0 : World} {a : Act} (hg : ops.all (gOk ops) = true) (h : AOp cx ops Q i next A H) (k : Step S0 H0 w0 S H w) (hs : Sim S H w) (hf : RvF cx.N S w A a)
    {nx : Act → World → Prop} (h1 : ∀ S' H' A' a' w', Step S0 H0 w0 S' H' w' → Sim S' H' w' → RvF cx.N S' w' A' a' → next A' H' → nx a' w') :
    wpOpIn (wideAt cx.P cx.ro) 0 cx.P ops (LQ cx Q S0 H0 w0) i nx a w := by
  unfold AOp at h
  unfold wpOpIn
  split at h
  · exact h.elim
  · rename_i o ho
    simp only [ho]
    have hgo : gOk ops o = true := by
      have hi : i < ops.size := by
        rcases Nat.lt_or_ge i ops.size with h | h
        · exact h
        · rw [Array.getElem?_eq_none h] at ho; cases ho
      rw [Array.getElem?_eq_getElem hi] at ho
      cases ho
      exact Array.all_eq_true.1 hg i hi
    exact vcG_sound hgo h k hs hf nx h1
theorem rdy_sub {listed : Array Bool} {i : Nat} (h : i ∈ rdy ops stop listed) : i ∈ Region.ready .any ops listed ∧ i ∉ stop := by
  simp only [rdy, List.mem_filter, Bool.not_eq_true', List.contains_eq_mem, decide_eq_false_iff_not] at h
  exact h
theorem aany_sound (hg : ops.all (gOk ops) = true) (ht : tailOk ops stop = true) {S0 : Nat → Prop} {H0 : AH} {w0 : World} {m : Nat}
    (hK : ∀ A H S w a, K A H → Step S0 H0 w0 S H w → Sim S H w → RvF cx.N S w A a → ∀ fuel, m ≤ fuel → wpAnyIn (wideAt cx.P cx.ro) 0 cx.P .any ops (LQ cx Q S0 H0 w0) fuel full a w) :
    ∀ (n : Nat) (listed : Array Bool) (A : AF) (H : AH) (S : Nat → Prop) (w : World) (a : Act), Closed ops listed → AAny cx ops Q Hi stop full cut K n listed A H → Step S0 H0 w0 S H w → Sim S H w → RvF cx.N S w A a →
      wpAnyIn (wideAt cx.P cx.ro) 0 cx.P .any ops (LQ cx Q S0 H0 w0) (n + m) listed a w
  | 0, listed, A, H, S, w, a, hc, h, k, hs, hf => by
    obtain ⟨h1, rfl, h3⟩ := h
    exact hK A H S w a h3 k hs hf _ (by omega)
  | n + 1, listed, A, H, S, w, a, hc, h, k, hs, hf => by
    by_cases hr : rdy ops stop listed = []
    · obtain ⟨rfl, h3⟩ := h.1 hr
      exact hK A H S w a h3 k hs hf _ (by omega)
    · obtain ⟨i0, hi0⟩ := List.exists_mem_of_ne_nil _ hr
      have hi0' := rdy_sub hi0
      rw [show n + 1 + m = (n + m) + 1 from by omega]
      refine ⟨fun e => (by rw [e] at hi0'; cases hi0'.1), fun i hi => ?_⟩
      have hns : i ∉ stop := by
        intro his
        have hall := List.all_eq_true.1 ht i his
        obtain ⟨hun0, o0, ho0, _⟩ := mem_ready.1 hi0'.1
        have hk0 : i0 < ops.size := by
          rcases Nat.lt_or_ge i0 ops.size with h | h
          · exact h
          · rw [Array.getElem?_eq_none h] at ho0; cases ho0
        obtain ⟨hun, o, ho, hafter⟩ := mem_ready.1 hi
        by_cases hin : i0 ∈ clo ops (ops.size * 20 + 20) (List.range ops.size) (preds ops i)
        · have h2 := List.all_eq_true.1 hall i0 hin
          exact hi0'.2 (by simpa using h2)
        · have h5 := clo_listed hc _ _ _ (fun j hj => by
            obtain ⟨o', e, ho', he, hb, rfl⟩ := mem_preds hj
            rw [ho] at ho'; cases ho'
            exact hafter e he hb) i0 (List.mem_range.2 hk0) hin
          rcases Nat.lt_or_ge i0 listed.size with h' | h'
          · simp [h'] at hun0 h5; rw [hun0] at h5; cases h5
          · simp [Array.getElem?_eq_none h'] at h5
      have hir : i ∈ rdy ops stop listed := by
        simp only [rdy, List.mem_filter, Bool.not_eq_true', List.contains_eq_mem, decide_eq_false_iff_not]
        exact ⟨hi, hns⟩
      exact aop_wp hg (h.2 i hir) k hs hf fun S' H' A' a' w' g1 g2 g3 g4 => aany_sound hg ht hK n _ A' H' S' w' a' (hc.set hi) g4.2 g1 g2 g3
theorem planS_sound (hg : ops.all (gOk ops) = true) {S0 : Nat → Prop} {H0 : AH} {w0 : World} : ∀ (n : Nat) (listed : Array Bool) (q : List Nat) (A : AF) (H : AH) (S : Nat → Prop) (w : World) (a : Act), planS ops n listed = some q →
    vcL cx (q.filterMap (gAt ops)) Q A H → Step S0 H0 w0 S H w → Sim S H w → RvF cx.N S w A a → ∀ fuel, n ≤ fuel → wpAnyIn (wideAt cx.P cx.ro) 0 cx.P .any ops (LQ cx Q S0 H0 w0) fuel listed a w
  | 0, listed, q, A, H, S, w, a, hp, h, k, hs, hf, fuel, _ => by
    simp only [planS] at hp
    split at hp
    · rename_i hr
      cases hp
      exact wpAnyIn_done (by simpa using hr) ⟨by simp, S, H, A, k, hs, hf, h⟩ fuel
    · cases hp
  | n + 1, listed, q, A, H, S, w, a, hp, h, k, hs, hf, fuel, hle => by
    simp only [planS] at hp
    split at hp
    · rename_i i hr
      simp only [Option.map_eq_some_iff] at hp
      obtain ⟨p, hp, rfl⟩ := hp
      obtain ⟨fuel, rfl⟩ : ∃ f, fuel = f + 1 := ⟨fuel - 1, by omega⟩
      have hm : i ∈ Region.ready .any ops listed := by rw [hr]; simp
      obtain ⟨_, o, ho, _⟩ := mem_ready.1 hm
      have hga : gAt ops i = some (gopOf ops o) := by simp [gAt, ho]
      rw [List.filterMap_cons, hga] at h
      refine wpAnyIn_all hr (by simp) fun j hj => ?_
      obtain rfl : j = i := by simpa using hj
      refine aop_wp (cx := cx) (Q := Q) (A := A) (H := H) (next := vcL cx (p.filterMap (gAt ops)) Q) hg ?_ k hs hf fun S' H' A' a' w' g1 g2 g3 g4 => planS_sound hg n _ p A' H' S' w' a' hp g4 g1 g2 g3 fuel (by omega)
      simp only [AOp, ho]
      exact h
    · cases hp
end
section
variable {S : Nat → Prop} {H : AH} {w : World} {N : Nat} {A : AF} {a : Act}
theorem Sim.drawn (h : Sim S H w) (d : Nat) : Sim S H { w with drawn := d } := ⟨fun r b hb => RvB.mono (S := S) (w := w) (S' := S) (w' := { w with drawn := d }) (fun _ h => ⟨h, rfl⟩) rfl (h.blk r b hb), h.dis, h.lt⟩
theorem Step.drawn (S : Nat → Prop) (H : AH) (w : World) (d : Nat) : Step S H w S H { w with drawn := d } := ⟨rfl, rfl, rfl, Nat.le_refl _, fun _ h => h, fun _ _ _ => rfl, fun _ h => .inl h, fun _ h => .inl h⟩
end

/-! ### Taking one first -/
section
variable {cx : Cx} {ops : Array Oper} {Q : APost} {Hh : AH} {Hi : Nat → AH} {stop : List Nat} {full : Array Bool} {cut : Option Nat} {K : AF → AH → Prop}
/-- An operation, under its guard, that hands back a value at every state that has what the held one has. -/
def TkG (cx : Cx) (o : GOp) (A : AF) (Hh : AH) (x : VV) : Prop :=
  dOk cx.N o.dst ∧ (∀ c, o.op ≠ .defer c) ∧
  match o.g with
  | none => Tk cx o.op A Hh x
  | some (d, want) => ∃ b, A.t d = .lit (.bool b) ∧ if b = want then Tk cx o.op A Hh x else (callOk cx.P o.op A ∧ x = undefV)
theorem vcDo_of {o : GOp} {A : AF} {H : AH} {next : AF → AH → Prop} (hn : ∀ c, o.op ≠ .defer c) : vcDo cx o next Q A H = (dOk cx.N o.dst ∧ vcOp cx o.op A H (vcK next Q o.dst A)) := by
  unfold vcDo
  cases h : o.op <;> first | rfl | exact absurd h (hn _)
theorem TkG.use {o : GOp} {A : AF} {H : AH} {x : VV} {next : AF → AH → Prop} (h : TkG cx o A Hh x) (hs : SubH Hh H) (k : next (A.put o.dst x) H) : vcG cx o next Q A H := by
  obtain ⟨h1, h2, h3⟩ := h
  unfold vcG
  split
  · rename_i e
    simp only [e] at h3
    rw [vcDo_of h2]
    exact ⟨h1, h3 H _ hs k⟩
  · rename_i d want e
    simp only [e] at h3
    obtain ⟨b, hb, h3⟩ := h3
    simp only [hb]
    split at h3
    · rename_i hbw
      rw [if_pos hbw, vcDo_of h2]
      exact ⟨h1, h3 H _ hs k⟩
    · rename_i hbw
      rw [if_neg hbw]
      obtain ⟨h3, rfl⟩ := h3
      exact ⟨h1, h3, k⟩
theorem tk_pure {op : Op} {A : AF} {x : VV} (hp : isPure op = true) (h : Tk cx op A Hh x) (H : AH) : Tk cx op A H x := by
  have h1 := h Hh (fun e _ => e = .ret x) (SubH.refl _) rfl
  intro H' K _ k
  cases op with
  | move y => simp only [vcOp] at h1 ⊢; cases h1; exact k
  | assign y => simp only [vcOp] at h1 ⊢; cases h1; exact k
  | nilCheck y =>
    simp only [vcOp, vcNil] at h1 ⊢
    split at h1
    all_goals first | (cases h1; exact k) | exact h1.elim | (rename_i e; rw [e]; cases h1; exact k)
  | fieldAddr s y f =>
    simp only [vcOp, vcFieldAddr] at h1 ⊢
    split at h1
    all_goals first | (obtain ⟨h0, h1⟩ := h1; cases h1; exact ⟨h0, k⟩) | exact h1.elim | (rename_i e1 e2; rw [e1, e2]; obtain ⟨h0, h1⟩ := h1; cases h1; exact ⟨h0, k⟩)
  | _ => cases hp
theorem TkG.pure {o : GOp} {A : AF} {x : VV} (hp : isPure o.op = true) (h : TkG cx o A Hh x) (H : AH) : TkG cx o A H x := by
  obtain ⟨h1, h2, h3⟩ := h
  refine ⟨h1, h2, ?_⟩
  split
  · rename_i e
    simp only [e] at h3
    exact tk_pure hp h3 H
  · rename_i d want e
    simp only [e] at h3
    obtain ⟨b, hb, h3⟩ := h3
    refine ⟨b, hb, ?_⟩
    split
    · rename_i hbw; rw [if_pos hbw] at h3; exact tk_pure hp h3 H
    · rename_i hbw; rw [if_neg hbw] at h3; exact h3
/-- From a run on the held state. -/
theorem TkG.of {o : GOp} {A : AF} {next : AF → AH → Prop} (ht : isTake cx.P o.op = true) (h : vcG cx o next (fun _ _ _ => False) A Hh) : ∃ x, TkG cx o A Hh x ∧ next (A.put o.dst x) Hh := by
  have hn : ∀ c, o.op ≠ .defer c := fun c e => by rw [e] at ht; cases ht
  unfold vcG at h
  split at h
  · rename_i e
    rw [vcDo_of hn] at h
    obtain ⟨x, h1, h2⟩ := take_inv ht h.2
    exact ⟨x, ⟨h.1, hn, by simp only [e]; exact h1⟩, h2⟩
  · rename_i d want e
    split at h
    · rename_i b hb
      split at h
      · rename_i hbw
        rw [vcDo_of hn] at h
        obtain ⟨x, h1, h2⟩ := take_inv ht h.2
        exact ⟨x, ⟨h.1, hn, by simp only [e]; exact ⟨b, hb, by rw [if_pos hbw]; exact h1⟩⟩, h2⟩
      · rename_i hbw
        exact ⟨undefV, ⟨h.1, hn, by simp only [e]; exact ⟨b, hb, by rw [if_neg hbw]; exact ⟨h.2.1, trivial⟩⟩⟩, h.2.2⟩
    · exact h.elim
def AF.same (ts : List Tmp) (A A' : AF) : Prop := ∀ d ∈ ts, A'.t d = A.t d
theorem same_eval {o : Oper} {A A' : AF} (h : AF.same (o.looksAt ops) A A') : ∀ x ∈ o.op.operands, A'.eval x = A.eval x := by
  intro x hx
  cases x with
  | tmp d => exact h d (List.mem_append_left _ (List.mem_filterMap.2 ⟨.tmp d, by simpa using hx, rfl⟩))
  | _ => rfl
theorem same_guard {o : Oper} {A A' : AF} (h : AF.same (o.looksAt ops) A A') {d : Tmp} {want : Bool} (he : (gopOf ops o).g = some (d, want)) : A'.t d = A.t d := by
  refine h d (List.mem_append_right _ ?_)
  simp only [gopOf] at he
  cases hg : o.guard with
  | none => simp [hg] at he
  | some p =>
    obtain ⟨j, w'⟩ := p
    simp only [hg, Option.bind_some, Option.map_eq_some_iff, Prod.mk.injEq] at he
    obtain ⟨d', hj, rfl, rfl⟩ := he
    simp [hj]
theorem callOk_congr {P : Program} {op : Op} {A A' : AF} (h : ∀ x ∈ op.operands, A'.eval x = A.eval x) : callOk P op A' = callOk P op A := by
  cases op with
  | call c =>
    obtain ⟨callee, args, ats⟩ := c
    cases callee with
    | builtin b => rfl
    | value f => simp only [callOk, h f (by simp [Op.operands, Call.operands])]
    | invoke x m => simp only [callOk, h x (by simp [Op.operands, Call.operands])]
  | _ => rfl
theorem TkG.same {o : Oper} {A A' : AF} {x : VV} (hs : AF.same (o.looksAt ops) A A') (h : TkG cx (gopOf ops o) A Hh x) : TkG cx (gopOf ops o) A' Hh x := by
  obtain ⟨h1, h2, h3⟩ := h
  refine ⟨h1, h2, ?_⟩
  have htk : ∀ x, Tk cx o.op A Hh x → Tk cx o.op A' Hh x := fun x hx H K hsub k => by
    rw [vcOp_congr (same_eval hs)]
    exact hx H K hsub k
  split
  · rename_i e
    simp only [e] at h3
    exact htk _ h3
  · rename_i d want e
    simp only [e] at h3
    obtain ⟨b, hb, h3⟩ := h3
    refine ⟨b, by rw [same_guard hs e]; exact hb, ?_⟩
    split at h3
    · rename_i hbw; rw [if_pos hbw]; exact htk _ h3
    · rename_i hbw; rw [if_neg hbw]; exact ⟨by have := h3.1; rwa [show (gopOf ops o).op = o.op from rfl, ← callOk_congr (same_eval hs)] at this, h3.2⟩
theorem put_t_ne {A : AF} {dst : Option Tmp} {x : VV} {d : Tmp} (h : ∀ e, dst = some e → e ≠ d) : (A.put dst x).t d = A.t d := by
  cases dst with
  | none => rfl
  | some e => exact upd_ne _ _ (Ne.symm (h e rfl))
theorem put_same {A : AF} {dst : Option Tmp} {x : VV} {ts : List Tmp} (h : ∀ e, dst = some e → e ∉ ts) : AF.same ts A (A.put dst x) := fun d hd => put_t_ne fun e he hed => h e he (hed ▸ hd)
theorem put_comm {A : AF} {d e : Option Tmp} {x y : VV} (h : ∀ i, d = some i → e ≠ some i) : (A.put d x).put e y = (A.put e y).put d x := by
  cases d with
  | none => rfl
  | some i =>
    cases e with
    | none => rfl
    | some j =>
      have hij : i ≠ j := fun he => h i rfl (by rw [he])
      simp only [AF.put]
      congr 1
      funext k
      simp only [upd]
      by_cases h1 : k = i <;> by_cases h2 : k = j <;> simp_all
/-- Panics don't look at temporaries. -/
def panQ (Q : APost) : Prop := ∀ c A A' H, A'.d = A.d → Q (.panic c) A H → Q (.panic c) A' H
theorem put_d {A : AF} {d : Option Tmp} {x : VV} : (A.put d x).d = A.d := by cases d <;> rfl
/-- Another operation, where one has been taken ahead of it. -/
theorem vcG_put {oi oj : Oper} {x : VV} {A : AF} {H : AH} {next : AF → AH → Prop} (hQ : panQ Q) (hap : oi.apart ops oj = true) (hnd : ∀ c, oj.op ≠ .defer c) (h : vcG cx (gopOf ops oj) next Q (A.put oi.dst x) H) :
    vcG cx (gopOf ops oj) (fun A' H' => (∃ u, A' = A.put oj.dst u) ∧ next (A'.put oi.dst x) H') Q A H := by
  obtain ⟨h1, h2, h3⟩ := Oper.apart_spec hap
  have hsame : AF.same (oj.looksAt ops) A (A.put oi.dst x) := put_same h1
  have hdo : vcDo cx (gopOf ops oj) next Q (A.put oi.dst x) H → vcDo cx (gopOf ops oj) (fun A' H' => (∃ u, A' = A.put oj.dst u) ∧ next (A'.put oi.dst x) H') Q A H := by
    rw [vcDo_of (o := gopOf ops oj) hnd, vcDo_of (o := gopOf ops oj) hnd]
    rintro ⟨g1, g2⟩
    refine ⟨g1, ?_⟩
    change vcOp cx oj.op _ _ _ at g2
    rw [vcOp_congr (same_eval hsame)] at g2
    refine vcOp_mono ?_ g2
    intro e H' hk
    cases e with
    | ret u =>
      refine ⟨⟨u, rfl⟩, ?_⟩
      have hk : next ((A.put oi.dst x).put oj.dst u) H' := hk
      rw [put_comm h2] at hk
      exact hk
    | pan ch => exact hQ ch _ _ H' put_d.symm hk
  unfold vcG at *
  split
  · rename_i e
    simp only [e] at h
    exact hdo h
  · rename_i d want e
    simp only [e] at h
    rw [same_guard hsame e] at h
    split
    · rename_i b hb
      simp only [hb] at h
      split at h
      · rename_i hbw; rw [if_pos hbw]; exact hdo h
      · rename_i hbw; rw [if_neg hbw]
        refine ⟨h.1, by have := h.2.1; rwa [show (gopOf ops oj).op = oj.op from rfl, callOk_congr (same_eval hsame)] at this, ⟨undefV, rfl⟩, ?_⟩
        have hk := h.2.2
        change next ((A.put oi.dst x).put oj.dst undefV) H at hk
        rw [put_comm h2] at hk
        exact hk
    · rename_i hb
      revert h
      split
      · rename_i b hb'; exact absurd hb' (hb b)
      · exact fun h => h
theorem vcG_mono {o : GOp} {A : AF} {H : AH} {next next' : AF → AH → Prop} (hnd : ∀ c, o.op ≠ .defer c) (hk : ∀ A H, next A H → next' A H) (h : vcG cx o next Q A H) : vcG cx o next' Q A H := by
  have hdo : vcDo cx o next Q A H → vcDo cx o next' Q A H := by
    rw [vcDo_of hnd, vcDo_of hnd]
    rintro ⟨g1, g2⟩
    refine ⟨g1, vcOp_mono ?_ g2⟩
    intro e H' hq
    cases e with
    | ret u => exact hk _ _ hq
    | pan ch => exact hq
  unfold vcG at *
  split
  · rename_i e
    simp only [e] at h
    exact hdo h
  · rename_i d want e
    simp only [e] at h
    split
    · rename_i b hb
      simp only [hb] at h
      split at h
      · rename_i hbw; rw [if_pos hbw]; exact hdo h
      · rename_i hbw; rw [if_neg hbw]; exact ⟨h.1, h.2.1, hk _ _ h.2.2⟩
    · rename_i hb
      revert h
      split
      · rename_i b hb'; exact absurd hb' (hb b)
      · exact fun h => h
end
end Go.PV
end
section
/- Regions that draw their order: the plan is enough. -/
set_option linter.unusedVariables false
set_option linter.unusedSimpArgs false
namespace Go.PV
section
variable {cx : Cx} {ops : Array Oper} {Q : APost} {Hh : AH} {Hi : Nat → AH} {stop : List Nat} {full : Array Bool} {cut : Option Nat} {K : AF → AH → Prop}
theorem rdy_mono {listed : Array Bool} {i j : Nat} (h : j ∈ rdy ops stop listed) (hne : j ≠ i) : j ∈ rdy ops stop (listed.setIfInBounds i true) := by
  have h' := rdy_sub h
  simp only [rdy, List.mem_filter, Bool.not_eq_true', List.contains_eq_mem, decide_eq_false_iff_not]
  exact ⟨ready_mono h'.1 hne, h'.2⟩
/-- What is ready is not waited for by what is ready. -/
theorem need_un {listed : Array Bool} {i j : Nat} (hcl : Closed ops listed) (hj : j ∈ Region.ready .any ops listed) (hi : i < ops.size) (hun : listed.getD i true = false) : i ∈ needOf ops j := by
  obtain ⟨_, oj, hoj, hall⟩ := mem_ready.1 hj
  by_cases hin : i ∈ needOf ops j
  · exact hin
  · exfalso
    have h5 := clo_listed hcl _ _ _ (fun k hk => by
      obtain ⟨o', e, ho', he, hb, rfl⟩ := mem_preds hk
      rw [hoj] at ho'; cases ho'
      exact hall e he hb) i (List.mem_range.2 hi) hin
    rcases Nat.lt_or_ge i listed.size with h' | h'
    · simp [h'] at hun h5; rw [hun] at h5; cases h5
    · simp [Array.getElem?_eq_none h'] at h5
theorem need_mem {listed : Array Bool} {i j : Nat} (hcl : Closed ops listed) (hj : j ∈ Region.ready .any ops listed) (hi : i ∈ Region.ready .any ops listed) : i ∈ needOf ops j := by
  obtain ⟨hun, oi, hoi, _⟩ := mem_ready.1 hi
  have hlt : i < ops.size := by
    rcases Nat.lt_or_ge i ops.size with h | h
    · exact h
    · rw [Array.getElem?_eq_none h] at hoi; cases hoi
  exact need_un hcl hj hlt hun
theorem aany_first {i : Nat} {oi : Oper} {x : VV} (hci : cut ≠ some i) (hcut : ∀ j, cut = some j → isPure oi.op = true ∨ ∀ listed, Closed ops listed → listed.getD j false = true → listed.getD i false = true) (hnd : ∀ (j : Nat) (o : Oper) c, ops[j]? = some o → o.op ≠ .defer c) (hQ : panQ Q) (hi : ops[i]? = some oi) :
    ∀ (n : Nat) (listed : Array Bool) (A : AF) (H : AH), Closed ops listed →
      (∀ j oj, ops[j]? = some oj → j ≠ i → listed.getD j true = false → (∀ e ∈ oj.after, Region.binds .any e = true → e.on ≠ i) → oi.apart ops oj = true) →
      i ∈ rdy ops stop listed → TkG cx (gopOf ops oi) A (Hi i) x → (gone cut listed ∨ SubH (Hi i) H) → AAny cx ops Q Hi stop full cut K n (listed.setIfInBounds i true) (A.put oi.dst x) H → AAny cx ops Q Hi stop full cut K (n + 1) listed A H
  | n, listed, A, H, hcl, hfree, hr, ht, hsub, hh => by
    refine ⟨fun e => (by rw [e] at hr; cases hr), fun j hj => ?_⟩
    by_cases hji : j = i
    · subst hji
      simp only [AOp, hi]
      rcases hsub with hg | hsub
      · have hg' := hg.set j
        obtain ⟨c, hc, hl⟩ := hg
        rcases hcut c hc with hp | hp
        · exact (ht.pure hp H).use (SubH.refl _) ⟨.inl hg', hh⟩
        · exfalso
          have h1 := hp listed hcl hl
          have h0 := (mem_ready.1 (rdy_sub hr).1).1
          rcases Nat.lt_or_ge j listed.size with h' | h'
          · simp [h'] at h0 h1; rw [h0] at h1; cases h1
          · simp [Array.getElem?_eq_none h'] at h1
      · exact ht.use hsub ⟨.inr fun _ _ h => h, hh⟩
    · have hj' := rdy_mono (i := i) hj hji
      cases n with
      | zero => rw [hh.1] at hj'; cases hj'
      | succ n =>
        have h1 := hh.2 j hj'
        obtain ⟨hjun, oj, hoj, hall⟩ := mem_ready.1 (rdy_sub hj).1
        have hnot : ∀ e ∈ oj.after, Region.binds .any e = true → e.on ≠ i := fun e he hb heq => by
          have h1 := hall e he hb
          have h0 := (mem_ready.1 (rdy_sub hr).1).1
          rw [heq] at h1
          rcases Nat.lt_or_ge i listed.size with h' | h'
          · simp [h'] at h0 h1; rw [h0] at h1; cases h1
          · simp [Array.getElem?_eq_none h'] at h1
        have hap := hfree j oj hoj hji hjun hnot
        simp only [AOp, hoj] at h1 ⊢
        refine vcG_mono (o := gopOf ops oj) (fun c => hnd j oj c hoj) ?_ (vcG_put (oi := oi) hQ hap (fun c => hnd j oj c hoj) h1)
        rintro A' H' ⟨⟨u, rfl⟩, g1, g2⟩
        have g1 : gone cut (listed.setIfInBounds j true) ∨ ∀ k ∈ needOf ops j, SubH (Hi k) H → SubH (Hi k) H' := by
          rcases g1 with ⟨c, hc, hl⟩ | g1
          · left
            rw [Array.setIfInBounds_comm _ _ (Ne.symm hji)] at hl
            rcases getD_set_inv hl with rfl | hl
            · exact absurd hc hci
            · exact ⟨c, hc, hl⟩
          · exact .inr g1
        have g3 : gone cut (listed.setIfInBounds j true) ∨ SubH (Hi i) H' := by
          rcases g1 with g1 | g1
          · exact .inl g1
          · rcases hsub with hg | hsub
            · exact .inl (hg.set j)
            · exact .inr (g1 i (need_mem hcl (rdy_sub hj).1 (rdy_sub hr).1) hsub)
        refine ⟨g1, aany_first hci hcut hnd hQ hi n _ _ H' (hcl.set (rdy_sub hj).1) ?_ (rdy_mono hr (Ne.symm hji)) (ht.same (put_same (Oper.apart_spec hap).2.2)) g3 ?_⟩
        · intro k ok hk hki hun hno
          refine hfree k ok hk hki ?_ hno
          by_cases hjk : j = k
          · subst hjk; exact hjun
          · rw [getD_set_ne true hjk] at hun; exact hun
        · rw [Array.setIfInBounds_comm _ _ hji]
          exact g2
def vcPl (cx : Cx) (Hh : AH) : GPlan → (AF → AH → Prop) → APost → AF → AH → Prop
  | .fin, K, _ => K
  | .tk _ o p, K, Q => fun A H => vcG cx o (fun A' _ => vcPl cx Hh p K Q A' H) (fun _ _ _ => False) A Hh
  | .one _ o p, K, Q => vcG cx o (fun A' H' => SubH Hh H' ∧ vcPl cx Hh p K Q A' H') Q
  | .cut o p, K, Q => vcG cx o (fun A' H' => vcPl cx Hh p K Q A' H') Q
  | .two _ o p _ o' p', K, Q => fun A H => vcG cx o (fun A' H' => SubH Hh H' ∧ vcPl cx Hh p K Q A' H') Q A H ∧ vcG cx o' (fun A' H' => SubH Hh H' ∧ vcPl cx Hh p' K Q A' H') Q A H
/-- The same, each operation that is taken first having a held state of its own; an operation keeps those of what it does not wait for. -/
def vcPl2 (cx : Cx) (Hi : Nat → AH) : GPlan → (AF → AH → Prop) → APost → AF → AH → Prop
  | .fin, K, _ => K
  | .tk i o p, K, Q => fun A H => vcG cx o (fun A' _ => vcPl2 cx Hi p K Q A' H) (fun _ _ _ => False) A (Hi i)
  | .one nd o p, K, Q => fun A H => vcG cx o (fun A' H' => (∀ k ∈ nd, SubH (Hi k) H → SubH (Hi k) H') ∧ vcPl2 cx Hi p K Q A' H') Q A H
  | .cut o p, K, Q => vcG cx o (fun A' H' => vcPl2 cx Hi p K Q A' H') Q
  | .two nd o p nd' o' p', K, Q => fun A H => vcG cx o (fun A' H' => (∀ k ∈ nd, SubH (Hi k) H → SubH (Hi k) H') ∧ vcPl2 cx Hi p K Q A' H') Q A H ∧ vcG cx o' (fun A' H' => (∀ k ∈ nd', SubH (Hi k) H → SubH (Hi k) H') ∧ vcPl2 cx Hi p' K Q A' H') Q A H
theorem vcG_mono2 {cx : Cx} {Q : APost} {o : GOp} {A : AF} {H : AH} {next next' : AF → AH → Prop} (hk : ∀ A H, next A H → next' A H) (h : vcG cx o next Q A H) : vcG cx o next' Q A H := by
  by_cases hnd : ∀ c, o.op ≠ .defer c
  · exact vcG_mono hnd hk h
  · have hex : ∃ c, o.op = .defer c := by
      rcases Classical.em (∃ c, o.op = .defer c) with h | h
      · exact h
      · exact absurd (fun c hc => h ⟨c, hc⟩) hnd
    obtain ⟨c, hc⟩ := hex
    obtain ⟨dst, op, g⟩ := o
    dsimp only at hc
    subst hc
    have hdo : vcDo cx ⟨dst, .defer c, g⟩ next Q A H → vcDo cx ⟨dst, .defer c, g⟩ next' Q A H := by
      rintro ⟨h1, h2, h3⟩
      refine ⟨h1, h2, ?_⟩
      split
      · rename_i f hf
        rw [hf] at h3
        dsimp only at h3
        split
        · rename_i e1 e2
          rw [e1, e2] at h3
          exact hk _ _ h3
        · rename_i hn
          split at h3
          · rename_i e1 e2; exact absurd e2 (hn _ _ _ _ e1)
          · exact h3
      · rename_i hn
        split at h3
        · rename_i f hf; exact absurd hf (hn f)
        · exact h3
    unfold vcG at *
    dsimp only at *
    split at h
    · exact hdo h
    · split at h
      · split at h
        · rename_i e2; rw [if_pos e2]; exact hdo h
        · rename_i e2; rw [if_neg e2]; exact ⟨h.1, h.2.1, hk _ _ h.2.2⟩
      · exact h.elim
theorem vcPl_to2 {cx : Cx} {Hh : AH} {K : AF → AH → Prop} {Q : APost} : ∀ (p : GPlan) (A : AF) (H : AH), vcPl cx Hh p K Q A H → vcPl2 cx (fun _ => Hh) p K Q A H
  | .fin, A, H, h => h
  | .tk i o p, A, H, h => vcG_mono2 (fun A' _ h => vcPl_to2 p A' H h) h
  | .one nd o p, A, H, h => vcG_mono2 (next := fun A' H' => SubH Hh H' ∧ vcPl cx Hh p K Q A' H') (fun A' H' h => ⟨fun _ _ _ => h.1, vcPl_to2 p A' H' h.2⟩) h
  | .cut o p, A, H, h => vcG_mono2 (next := fun A' H' => vcPl cx Hh p K Q A' H') (fun A' H' h => vcPl_to2 p A' H' h) h
  | .two nd o p nd' o' p', A, H, h => ⟨vcG_mono2 (next := fun A' H' => SubH Hh H' ∧ vcPl cx Hh p K Q A' H') (fun A' H' h => ⟨fun _ _ _ => h.1, vcPl_to2 p A' H' h.2⟩) h.1, vcG_mono2 (next := fun A' H' => SubH Hh H' ∧ vcPl cx Hh p' K Q A' H') (fun A' H' h => ⟨fun _ _ _ => h.1, vcPl_to2 p' A' H' h.2⟩) h.2⟩
theorem gAt_some {i : Nat} {o : GOp} (h : gAt ops i = some o) : ∃ oi, ops[i]? = some oi ∧ o = gopOf ops oi := by
  simp only [gAt, Option.map_eq_some_iff] at h
  obtain ⟨oi, h1, rfl⟩ := h
  exact ⟨oi, h1, rfl⟩
def cutOk (ops : Array Oper) (stop : List Nat) (cut : Option Nat) : Prop := ∀ i oi, ops[i]? = some oi → i ∉ stop → cut ≠ some i → ∀ j, cut = some j → isPure oi.op = true ∨ ∀ listed, Closed ops listed → listed.getD j false = true → listed.getD i false = true
theorem cutOk_of (ops : Array Oper) (tail : List Nat) : cutOk ops tail (cutOf ops tail) := by
  intro i oi hi hs hne j hj
  unfold cutOf at hj
  split at hj
  · split at hj
    · rename_i j' _ hall
      cases hj
      have hlt : i < ops.size := by
        rcases Nat.lt_or_ge i ops.size with h | h
        · exact h
        · rw [Array.getElem?_eq_none h] at hi; cases hi
      by_cases hin : i ∈ clo ops (ops.size * 20 + 20) (List.range ops.size) (preds ops j)
      · have h2 := List.all_eq_true.1 hall i hin
        simp only [hi, Bool.or_eq_true, beq_iff_eq, List.contains_eq_mem, decide_eq_true_eq] at h2
        rcases h2 with (h2 | h2) | h2
        · subst h2
          exfalso
          apply hne
          unfold cutOf
          simp_all
        · exact absurd h2 hs
        · exact .inl h2
      · right
        intro listed hcl hl
        by_cases hjo : ∃ oj, ops[j]? = some oj
        · obtain ⟨oj, hoj⟩ := hjo
          exact clo_listed hcl _ _ _ (fun k hk => by
            obtain ⟨o', e, ho', he, hb, rfl⟩ := mem_preds hk
            exact hcl j o' hl ho' e he hb) i (List.mem_range.2 hlt) hin
        · exfalso
          have : preds ops j = [] := by
            unfold preds
            split
            · rename_i o ho; exact absurd ⟨o, ho⟩ hjo
            · rfl
          rw [this] at hin
          apply hin
          cases h : ops.size * 20 + 20 with
          | zero => omega
          | succ m => simp only [clo]; exact List.mem_range.2 hlt
    · cases hj
  · cases hj
theorem rdy_lt {i : Nat} {oi : Oper} (hi : ops[i]? = some oi) : i < ops.size := by
  rcases Nat.lt_or_ge i ops.size with h | h
  · exact h
  · rw [Array.getElem?_eq_none h] at hi; cases hi
theorem unset_un {listed : Array Bool} {i k : Nat} (h : (listed.setIfInBounds i true).getD k true = false) : listed.getD k true = false := by
  simp only [Array.getD_eq_getD_getElem?] at h ⊢
  rw [Array.getElem?_setIfInBounds] at h
  split at h
  · split at h
    · cases h
    · cases h
  · exact h
theorem planT_sound (hcut : cutOk ops stop cut) (hnd : ∀ (j : Nat) (o : Oper) c, ops[j]? = some o → o.op ≠ .defer c) (hQ : panQ Q) : ∀ (n : Nat) (listed : Array Bool) (g : GPlan) (A : AF) (H : AH), planT cx.P ops stop full cut n listed = some g → Closed ops listed → vcPl2 cx Hi g K Q A H → (gone cut listed ∨ ∀ k, k < ops.size → listed.getD k true = false → SubH (Hi k) H) →
    AAny cx ops Q Hi stop full cut K n listed A H
  | 0, listed, g, A, H, hp, hcl, h, hsub => by
    simp only [planT] at hp
    split at hp
    · rename_i e
      cases hp
      simp only [Bool.and_eq_true, beq_iff_eq, List.isEmpty_iff] at e
      exact ⟨e.2, e.1, h⟩
    · cases hp
  | n + 1, listed, g, A, H, hp, hcl, h, hsub => by
    simp only [planT] at hp
    split at hp
    · rename_i e
      cases hp
      simp only [Bool.and_eq_true, beq_iff_eq, List.isEmpty_iff] at e
      exact ⟨fun _ => ⟨e.1, h⟩, fun i hi => by rw [e.2] at hi; cases hi⟩
    · split at hp
      · rename_i i hfind
        have hir := List.mem_of_find?_eq_some hfind
        have hik0 := List.find?_some hfind
        simp only [Bool.and_eq_true, bne_iff_ne, ne_eq] at hik0
        obtain ⟨hik, hci⟩ := hik0
        split at hp
        · rename_i o p ho hp'
          cases hp
          obtain ⟨oi, hi, rfl⟩ := gAt_some ho
          simp only [isTk, hi, Bool.and_eq_true] at hik
          obtain ⟨x, h1, h2⟩ := TkG.of (o := gopOf ops oi) hik.1 h
          exact aany_first hci (hcut i oi hi (rdy_sub hir).2 hci) hnd hQ hi n listed A H hcl (Region.free_spec hi hik.2) hir h1 (hsub.imp id fun h => h i (rdy_lt hi) (mem_ready.1 (rdy_sub hir).1).1) (planT_sound hcut hnd hQ n _ p _ H hp' (hcl.set (rdy_sub hir).1) h2 (hsub.imp (fun h => h.set i) (fun h k hk hu => h k hk (unset_un hu))))
        · cases hp
      · split at hp
        · rename_i i hrd
          split at hp
          · rename_i o p ho hp'
            cases hp
            obtain ⟨oi, hi, rfl⟩ := gAt_some ho
            refine ⟨fun e => (by rw [hrd] at e; cases e), fun j hj => ?_⟩
            have hjr := hj
            rw [hrd] at hj
            obtain rfl : j = i := by simpa using hj
            simp only [AOp, hi]
            split at h
            · rename_i hcj
              have hg : gone cut (listed.setIfInBounds j true) := by
                refine ⟨j, by simpa using hcj, ?_⟩
                have h0 := (mem_ready.1 (rdy_sub hjr).1).1
                rcases Nat.lt_or_ge j listed.size with h' | h'
                · simp [Array.getD_eq_getD_getElem?, h']
                · simp [Array.getElem?_eq_none h'] at h0
              exact vcG_mono (o := gopOf ops oi) (fun c => hnd j oi c hi) (fun A' H' hk => ⟨.inl hg, planT_sound hcut hnd hQ n _ p A' H' hp' (hcl.set (rdy_sub hjr).1) hk (.inl hg)⟩) h
            · exact vcG_mono (o := gopOf ops oi) (fun c => hnd j oi c hi) (fun A' H' hk => ⟨.inr hk.1, planT_sound hcut hnd hQ n _ p A' H' hp' (hcl.set (rdy_sub hjr).1) hk.2 (hsub.imp (fun h => h.set j) fun h k hks hu => hk.1 k (need_un hcl (rdy_sub hjr).1 hks (unset_un hu)) (h k hks (unset_un hu)))⟩) h
          · cases hp
        · rename_i i j hrd
          split at hp
          · rename_i o p o' p' ho hp' ho' hp''
            cases hp
            obtain ⟨oi, hi, rfl⟩ := gAt_some ho
            obtain ⟨oj, hj, rfl⟩ := gAt_some ho'
            refine ⟨fun e => (by rw [hrd] at e; cases e), fun k hk => ?_⟩
            have hkr := hk
            rw [hrd] at hk
            have hk : k = i ∨ k = j := by simpa using hk
            rcases hk with rfl | rfl
            · simp only [AOp, hi]
              exact vcG_mono (o := gopOf ops oi) (fun c => hnd k oi c hi) (fun A' H' hk => ⟨.inr hk.1, planT_sound hcut hnd hQ n _ p A' H' hp' (hcl.set (rdy_sub hkr).1) hk.2 (hsub.imp (fun h => h.set k) fun h q hqs hu => hk.1 q (need_un hcl (rdy_sub hkr).1 hqs (unset_un hu)) (h q hqs (unset_un hu)))⟩) h.1
            · simp only [AOp, hj]
              exact vcG_mono (o := gopOf ops oj) (fun c => hnd k oj c hj) (fun A' H' hk => ⟨.inr hk.1, planT_sound hcut hnd hQ n _ p' A' H' hp'' (hcl.set (rdy_sub hkr).1) hk.2 (hsub.imp (fun h => h.set k) fun h q hqs hu => hk.1 q (need_un hcl (rdy_sub hkr).1 hqs (unset_un hu)) (h q hqs (unset_un hu)))⟩) h.2
          · cases hp
        · cases hp
theorem acx_dreg2 {p : GPlan} {tail : List GOp} {A : AF} {H : AH} (hm : cx.P.follows .mixedOrders = true) (hQ : panQ Q) (Hi : Nat → AH) (hsub : ∀ k, SubH (Hi k) H) (h : vcPl2 cx Hi p (vcL cx tail Q) Q A H) : ACx cx (.dreg p tail) Q A H := by
  intro c hc
  cases c with
  | region id ops draw =>
    unfold compile at hc
    split at hc
    · rename_i hd
      subst hd
      unfold compileD at hc
      dsimp only at hc
      split at hc
      · rename_i hcond
        simp only [Bool.and_eq_true] at hcond
        obtain ⟨⟨⟨hg, _⟩, hnd⟩, htail⟩ := hcond
        split at hc
        · rename_i p' q hp hq
          cases hc
          have hnd' : ∀ (j : Nat) (o : Oper) c, ops[j]? = some o → o.op ≠ .defer c := fun j o c hj hd => by
            have hjs : j < ops.size := by
              rcases Nat.lt_or_ge j ops.size with h | h
              · exact h
              · rw [Array.getElem?_eq_none h] at hj; cases hj
            rw [Array.getElem?_eq_getElem hjs] at hj
            cases hj
            have := Array.all_eq_true.1 hnd j hjs
            rw [hd] at this
            cases this
          have hany := planT_sound (cx := cx) (K := vcL cx (q.filterMap (gAt ops)) Q) (cutOk_of ops _) hnd' hQ _ _ p A H hp (Closed.none _) h (.inr fun k _ _ => hsub k)
          intro S w a hs hf
          refine wpIn_region_any hm ?_
          have hs' := hs.drawn (w.drawn + 1)
          have hk := Step.drawn S H w (w.drawn + 1)
          have hf' := hf.step hs hk
          have := aany_sound (cx := cx) (Q := Q) (Hi := Hi) (m := (tailOf ops ops.size).length) (S0 := S) (H0 := H) (w0 := w) hg htail
            (fun A H S w a hk h1 h2 h3 fuel hfu => planS_sound hg _ _ q A H S w a hq hk h1 h2 h3 fuel hfu) _ _ A H S _ a (Closed.none _) hany hk hs' hf'
          have hlen : (tailOf ops ops.size).length ≤ ops.size := by
            have hg : ∀ n listed, (greedy ops n listed).length ≤ n := by
              intro n
              induction n with
              | zero => simp [greedy]
              | succ n ih =>
                intro listed
                simp only [greedy]
                split
                · simp
                · have := ih (listed.setIfInBounds ‹_› true)
                  simp only [List.length_cons]; omega
            have ht : ∀ (order : List Nat) n, (tailGo ops order n).length ≤ order.length := by
              intro order n
              induction n with
              | zero => simp [tailGo]
              | succ n ih =>
                simp only [tailGo]
                split
                · split
                  · simp
                  · exact ih
                · simp
            exact Nat.le_trans (ht _ _) (hg _ _)
          rwa [Nat.sub_add_cancel hlen] at this
        · cases hc
      · cases hc
    · split at hc <;> cases hc
  | seq x y => simp only [compile] at hc; split at hc <;> cases hc
  | _ => simp [compile] at hc
/-- A region that draws its order: what is read stays asg the held state has it, up to the last operations. -/
theorem acx_dreg {p : GPlan} {tail : List GOp} {A : AF} {H : AH} (hm : cx.P.follows .mixedOrders = true) (hQ : panQ Q) (Hh : AH) (hsub : SubH Hh H) (h : vcPl cx Hh p (vcL cx tail Q) Q A H) : ACx cx (.dreg p tail) Q A H :=
  acx_dreg2 hm hQ (fun _ => Hh) (fun _ => hsub) (vcPl_to2 p A H h)
end
/-! For steps. -/
section
variable {cx : Cx} {Q : APost} {A : AF} {H Hh : AH} {K : AF → AH → Prop}
theorem s_plFin : vcPl cx Hh .fin K Q A H = K A H := rfl
def plK (cx : Cx) (Hh : AH) (p : GPlan) (K : AF → AH → Prop) (Q : APost) (H : AH) : AF → AH → Prop := fun A' _ => vcPl cx Hh p K Q A' H
def oneK (cx : Cx) (Hh : AH) (p : GPlan) (K : AF → AH → Prop) (Q : APost) : AF → AH → Prop := fun A' H' => SubH Hh H' ∧ vcPl cx Hh p K Q A' H'
def noQ : APost := fun _ _ _ => False
theorem s_plK (p : GPlan) (A' : AF) (H' : AH) : plK cx Hh p K Q H A' H' = vcPl cx Hh p K Q A' H := rfl
theorem s_oneK (p : GPlan) (A' : AF) (H' : AH) : oneK cx Hh p K Q A' H' = (SubH Hh H' ∧ vcPl cx Hh p K Q A' H') := rfl
theorem s_plTkN (i : Nat) (d : Option Tmp) (op : Op) (p : GPlan) : vcPl cx Hh (.tk i ⟨d, op, none⟩ p) K Q A H = vcDo cx ⟨d, op, none⟩ (plK cx Hh p K Q H) noQ A Hh := rfl
theorem s_plOneN (nd : List Nat) (d : Option Tmp) (op : Op) (p : GPlan) : vcPl cx Hh (.one nd ⟨d, op, none⟩ p) K Q A H = vcDo cx ⟨d, op, none⟩ (oneK cx Hh p K Q) Q A H := rfl
section
variable {d : Option Tmp} {op : Op} {H' : AH} {k : AF → AH → Prop}
end
end
end Go.PV
end
section
/- Rounds of a range over a function. -/
set_option linter.unusedVariables false
set_option linter.unusedSimpArgs false
namespace Go.PV

/-! ### A round's contract, panics taken in -/
def roundPostP (P : Program) (l : Nat) (R : Ending → World → Prop) : Exit → Act → World → Prop
  | .normal, _, w => ∃ v w', (Instr.endRound l none).run P w = .ok v w' ∧ R (.returned v) w'
  | .ret, _, w => ∃ v w', (Instr.endRound l (some .ret)).run P w = .ok v w' ∧ R (.returned v) w'
  | .exit id, _, w => ∃ v w', (Instr.endRound l (some (.exit id))).run P w = .ok v w' ∧ R (.returned v) w'
  | .panic ch, a, w => a.defers = [] ∧ R (.panicked ch) w
  | _, _, _ => False
theorem roundIn_pan {F : Fence} {n : Nat} {P : Program} {l : Nat} {f : FuncId} {tmps : Array Value} {assign body : Code} {w : World} {R : Ending → World → Prop} (hF : F.fn f) {fn : Func} (hfn : P.funcs[f]? = some fn)
    (h : assign.wpIn (F.inRound l) n P (Exit.then (fun a₁ w₁ => ∃ w₂, (Instr.beginRound l).run P w₁ = .ok () w₂ ∧ body.wpIn (F.inRound l) n P (roundPostP P l R) a₁ w₂) (fun _ _ _ => False))
      { tmps := tmps, defers := [] } w) :
    RoundIn F n P l f tmps assign body w R := by
  refine ⟨hF, fun c cs hr => ?_⟩
  let b : Frame := { (default : Frame) with fn := f, kind := .normal, roundOf := some l }
  have hb0 : Frame.round l f tmps assign body .normal = b.atR { tmps := tmps, defers := [] } [.code assign, .beginRound, .code body] := by
    simp [Frame.round, Frame.atR, b]
  have hr' : (F.inRound l).room ((c :: cs).length + 1 + n) := hr
  have hF' : (F.inRound l).fn b.fn := hF
  obtain ⟨e, a₁, w₁, hq, harr⟩ := h b [.beginRound, .code body] (c :: cs) rfl hF' hr'
  rw [← hb0] at harr
  cases e with
  | normal =>
    obtain ⟨w₂, hbr, hbody⟩ := hq
    have s1 : StepsIn (Machine.fenced P (F.inRound l)) P (lone (b.atR a₁ [.beginRound, .code body]) (c :: cs) w₁) (lone (b.atR a₁ [.code body]) (c :: cs) w₂) :=
      .one (fenced_calm (fr := b.atR a₁ [.beginRound, .code body]) hF' hr' rfl) (stepR_beginRound rfl hbr)
    obtain ⟨e₂, a₂, w₃, hq₂, harr₂⟩ := hbody b [] (c :: cs) rfl hF' hr'
    cases e₂ with
    | normal =>
      obtain ⟨v, w₄, hend, hR⟩ := hq₂
      exact ⟨.returned v, w₄, hR, (StepsIn.trans harr s1).trans (StepsIn.trans harr₂ (.one (fenced_calm (fr := b.atR a₂ []) hF' hr' rfl) (stepR_round_end rfl rfl hend)))⟩
    | ret =>
      obtain ⟨v, w₄, hend, hR⟩ := hq₂
      obtain ⟨k₁, hs⟩ := harr₂.2 rfl
      exact ⟨.returned v, w₄, hR, (StepsIn.trans harr s1).trans (StepsIn.trans hs (.one (fenced_calm (fr := b.atR a₂ (.code .ret :: k₁)) hF' hr' rfl) (stepR_round_ret rfl rfl hend)))⟩
    | exit id =>
      obtain ⟨v, w₄, hend, hR⟩ := hq₂
      obtain ⟨k₁, hk, hs⟩ := harr₂.2 rfl rfl
      exact ⟨.returned v, w₄, hR, (StepsIn.trans harr s1).trans (StepsIn.trans hs (.one (fenced_calm (fr := b.atR a₂ (.code (.exit id) :: k₁)) hF' hr' rfl) (stepR_round_exit rfl rfl hk hend)))⟩
    | goto t => exact hq₂.elim
    | panic chain =>
      obtain ⟨hd, hR⟩ := hq₂
      obtain ⟨todo, hs⟩ := harr₂
      have hleave : Frame.leaving P { b.atR a₂ todo with mode := .panicking chain } w₃ (.panicked chain) := ⟨rfl, hd, fn, hfn⟩
      have hl : (lone { b.atR a₂ todo with mode := .panicking chain } (c :: cs) w₃).fenced P (F.inRound l) := fenced_leaving hF' hr' hleave
      exact ⟨.panicked chain, w₃, hR, (StepsIn.trans harr s1).trans (StepsIn.trans hs (.one hl (step_leave_panicked hleave)))⟩
    | outgrown => exact hq₂.elim
  | exit id => exact hq.elim
  | goto t => exact hq.elim
  | ret => exact hq.elim
  | panic chain => exact hq.elim
  | outgrown => exact hq.elim

/-! ### The states -/
def putAll : List Tmp → List VV → (Nat → VV) → (Nat → VV)
  | p :: ps, x :: xs, t => putAll ps xs (upd t p x)
  | _, _, t => t
theorem putAll_real {S : Nat → Prop} {w : World} {N : Nat} : ∀ {ps : List Tmp} {xs : List VV} {us : List Value} {t : Nat → VV} {ts : Array Value}, RvL S w xs us → xs.length = ps.length → (∀ p ∈ ps, p < N) → ts.size = N → RvT S w t ts →
    RvT S w (putAll ps xs t) ((ps.zip us).foldl (fun t (p, v) => t.setIfInBounds p v) ts) ∧ ((ps.zip us).foldl (fun (t : Array Value) (p, v) => t.setIfInBounds p v) ts).size = N
  | [], xs, us, t, ts, hx, hl, hp, hn, ht => by
    have : xs = [] := List.eq_nil_of_length_eq_zero (by simpa using hl)
    subst this
    simp [RvL] at hx; subst hx
    exact ⟨ht, hn⟩
  | p :: ps, [], us, t, ts, hx, hl, hp, hn, ht => by simp at hl
  | p :: ps, x :: xs, us, t, ts, hx, hl, hp, hn, ht => by
    obtain ⟨u, us', rfl, h1, h2⟩ := hx
    simp only [List.zip_cons_cons, List.foldl_cons, putAll]
    exact putAll_real h2 (by simpa using hl) (fun q hq => hp q (by simp [hq])) (by simpa using hn) (RvT.put ht (by rw [hn]; exact hp p (by simp)) h1)
/-- How a round's body must be left. -/
def roundQ (l : Nat) (fn : FuncId) (N : Nat) (t : Nat → VV) (ps : Array Tmp) (asg bd : Code) (ds : Nat) (K : VE → AH → Prop) : APost
  | .normal => fun _ H => (∃ pe, H l = some (.loop .busy pe fn N t ps asg bd ds)) ∧ K (.ret (boolV true)) (H.set l (.loop .ready none fn N t ps asg bd ds))
  | .ret => fun _ H => (∃ pe, H l = some (.loop .busy pe fn N t ps asg bd ds)) ∧ K (.ret (boolV false)) (H.set l (.loop .done (some .ret) fn N t ps asg bd ds))
  | .exit id => fun _ H => (∃ pe, H l = some (.loop .busy pe fn N t ps asg bd ds)) ∧ K (.ret (boolV false)) (H.set l (.loop .done (some (.exit id)) fn N t ps asg bd ds))
  | .panic ch => fun A H => A.d = [] ∧ K (.pan ch) H
  | _ => fun _ _ => False
theorem acall_yield {P : Program} {ro : Option Nat} {l : Nat} {xs : List VV} {H : AH} {K : VE → AH → Prop} {pe : Option Code} {fn : FuncId} {N : Nat} {t : Nat → VV} {ps : Array Tmp} {asg bd : Code} {ds : Nat}
    (hl : H l = some (.loop .ready pe fn N t ps asg bd ds)) (hlen : xs.length = ps.size) (hps : ∀ p ∈ ps.toList, p < N) (hfn : (P.funcs[fn]?).isSome = true)
    (h : AC ⟨P, N, some l⟩ asg (thenA (fun A1 H1 => (∃ pe, H1 l = some (.loop .ready pe fn N t ps asg bd ds)) ∧ ∀ pe, AC ⟨P, N, some l⟩ bd (roundQ l fn N t ps asg bd ds K) A1 (H1.set l (.loop .busy pe fn N t ps asg bd ds))) (fun _ _ _ => False)) ⟨putAll ps.toList xs t, []⟩ H) :
    ACall P ro (.lit (.func (.yield l) #[] #[])) xs H K := by
  intro S w f args hs hf hx
  obtain rfl : f = .func (.yield l) #[] #[] := hf
  obtain ⟨fn', hfn'⟩ := Option.isSome_iff_exists.1 hfn
  obtain ⟨ts, ht1, ht2, ht3⟩ := hs.blk l _ hl
  have hargs : args.size = ps.size := by rw [← hlen]; simpa using hx.length
  refine ⟨fun d w' hd f' hle => ?_, ?_⟩
  · simp only [Deferred.ofValue, Sem.run_pure, Result.ok.injEq] at hd
    obtain ⟨rfl, rfl⟩ := hd
    simp [Target.leads] at hle
  have hy := run_yield (P := P) (args := args) ht1 hargs
  have hr : (do let d ← Deferred.ofValue (.func (.yield l) #[] #[]) args; invoke d.target d.args : Sem Next).run P w = (Instr.yield l args).run P w := by
    simp only [Deferred.ofValue, invoke, Sem.run_bind, Sem.run_pure, Result.andThen_ok, Array.empty_append]
  rw [hr, hy]
  dsimp only
  refine roundIn_pan (show (P.funcs[fn]?).isSome = true from hfn) hfn' ?_
  have hz : (ps.zip args).foldl (fun (t : Array Value) (p, v) => t.setIfInBounds p v) ts = (ps.toList.zip args.toList).foldl (fun t (p, v) => t.setIfInBounds p v) ts := by
    rw [← Array.foldl_toList, Array.toList_zip]
  obtain ⟨g1, g2⟩ := putAll_real (N := N) (S := S) (w := w) hx (by simpa using hlen) hps ht2 ht3
  rw [← hz] at g1 g2
  refine wpIn_mono (h S w { tmps := (ps.zip args).foldl (fun (t : Array Value) (p, v) => t.setIfInBounds p v) ts, defers := [] } hs ⟨g2, rfl, g1⟩) ?_
  rintro e a1 w1 ⟨h0, S1, H1, A1, k1, k2, k3, k4⟩
  cases e with
  | normal =>
    obtain ⟨⟨pe1, hl1⟩, hbody⟩ := k4
    obtain ⟨ts1, q1, q2, q3⟩ := k2.blk l _ hl1
    refine ⟨_, run_beginRound q1 rfl, ?_⟩
    have hw := k2.write (c := .loop .busy pe1 fn N t ps asg bd ds) (o := .loop { state := .busy, pending := pe1, fn, tmps := ts1, params := ps, assign := asg, body := bd, defers := ds }) hl1
      ⟨ts1, by rw [Array.getElem?_setIfInBounds_self_of_lt (k2.lt_of hl1)], q2, fun i => RvT.step q3 k2 (k2.write (c := .obj (.loop { state := .busy, pending := pe1, fn, tmps := ts1, params := ps, assign := asg, body := bd, defers := ds })) hl1 (by simp [RvB, k2.lt_of hl1])).2 i⟩
    refine wpIn_mono (hbody pe1 S1 _ a1 hw.1 (k3.step k2 hw.2)) ?_
    rintro e a2 w2 ⟨h0', S2, H2, A2, m1, m2, m3, m4⟩
    have fin : ∀ (jump : Option Code), (∃ pe, H2 l = some (.loop .busy pe fn N t ps asg bd ds)) → K (.ret (boolV jump.isNone)) (H2.set l (.loop (if jump.isNone then .ready else .done) jump fn N t ps asg bd ds)) →
        ∃ v w', (Instr.endRound l jump).run P w2 = .ok v w' ∧ RQ K S H w (.returned v) w' := by
      rintro jump ⟨pe2, hl2⟩ hk
      obtain ⟨ts2, r1, r2, r3⟩ := m2.blk l _ hl2
      have hw2 := m2.write (c := .loop (if jump.isNone then .ready else .done) jump fn N t ps asg bd ds) (o := .loop { state := if jump.isNone then .ready else .done, pending := jump, fn, tmps := ts2, params := ps, assign := asg, body := bd, defers := ds }) hl2
        ⟨ts2, by rw [Array.getElem?_setIfInBounds_self_of_lt (m2.lt_of hl2)], r2, fun i => RvT.step r3 m2 (m2.write (c := .obj (.loop { state := if jump.isNone then .ready else .done, pending := jump, fn, tmps := ts2, params := ps, assign := asg, body := bd, defers := ds })) hl2 (by simp [RvB, m2.lt_of hl2])).2 i⟩
      exact ⟨_, _, run_endRound jump r1, S2, _, boolV jump.isNone, ((k1.trans hw.2).trans m1).trans hw2.2, hw2.1, rfl, hk⟩
    cases e with
    | normal => exact fin none m4.1 m4.2
    | ret => exact fin (some .ret) m4.1 m4.2
    | exit id => exact fin (some (.exit id)) m4.1 m4.2
    | panic ch => exact ⟨m3.2.1.trans m4.1, S2, H2, (k1.trans hw.2).trans m1, m2, m4.2⟩
    | goto t => exact m4.elim
    | outgrown => exact absurd rfl h0'
  | _ => first | exact k4.elim | exact absurd rfl h0
end Go.PV
end
section
/- The statement that ranges over a function. -/
set_option linter.unusedVariables false
set_option linter.unusedSimpArgs false
namespace Go.PV
/-- A function value. -/
def FunV (x : VV) (g : FuncId) (first cap : List VV) : Prop :=
  x = .func (.func g) first cap ∨ ∃ a b : Array Value, x = .lit (.func (.func g) a b) ∧ first = a.toList.map .lit ∧ cap = b.toList.map .lit
theorem FunV.real {x : VV} {g : FuncId} {first cap : List VV} (h : FunV x g first cap) {S : Nat → Prop} {w : World} {u : Value} (hx : Rv S w x u) : ∃ a b, u = .func (.func g) a b ∧ RvL S w first a.toList ∧ RvL S w cap b.toList := by
  rcases h with rfl | ⟨a, b, rfl, rfl, rfl⟩
  · obtain ⟨a, b, rfl, h1, h2⟩ := hx
    exact ⟨a, b, rfl, h1, h2⟩
  · obtain rfl := hx
    exact ⟨a, b, rfl, RvL.lits _, RvL.lits _⟩
/-- The mark of a statement's block among an activation's deferred calls. -/
def markOf (r : Nat) : Deferred := { target := .collected r, args := #[] }
/-- What is owed when the function that was ranged over has ended. -/
def rfPost (Q : APost) (A : AF) (r l : Nat) (fn : FuncId) (N : Nat) (ps : Array Tmp) (asg bd : Code) : VE → AH → Prop
  | .ret _, H => ∃ st jump, H l = some (.loop st jump fn N A.t ps asg bd r) ∧ st ≠ .busy ∧
      (match jump with
       | none => Q .normal { A with d := markOf r :: A.d } (H.del l)
       | some .ret => Q .ret { A with d := markOf r :: A.d } (H.del l)
       | some (.exit id) => Q (.exit id) { A with d := markOf r :: A.d } (H.del l)
       | _ => False)
  | .pan ch, H => Q (.panic ch) { A with d := markOf r :: A.d } H
theorem acx_rfunc {cx : Cx} {Q : APost} {A : AF} {H : AH} {g : Operand} {ps : Array Tmp} {asg bd : ACode} (hro : cx.ro = none) {gf : FuncId} {first cap : List VV} (hg : FunV (A.eval g) gf first cap) (he : enterable cx.P gf = true)
    (h : ∀ r l fn ca cb, compile cx.P ca = asg → compile cx.P cb = bd → H r = none → H l = none → l ≠ r → (cx.P.funcs[fn]?).isSome = true →
      VCalls cx.P gf (first ++ [.lit (.func (.yield l) #[] #[])] ++ cap) ((H.set r (.obj (.deferred (some [])))).set l (.loop .ready none fn cx.N A.t ps ca cb r)) (rfPost Q A r l fn cx.N ps ca cb)) :
    ACx cx (.rfunc g ps asg bd) Q A H := by
  intro c hc
  cases c with
  | rangeFunc g' ps' ca cb =>
    simp only [compile, ACode.rfunc.injEq] at hc
    obtain ⟨rfl, rfl, hca, hcb⟩ := hc
    intro S w a hs hf
    refine wpIn_rangeFunc ?_
    intro fn hfn
    have hroF : (wideAt cx.P cx.ro).round = none := hro
    rw [hroF]
    obtain ⟨x, y, hu, hx1, hx2⟩ := hg.real (hf.eval g')
    have p1 := hs.push (o := .deferred (some [])) (b := .obj (.deferred (some []))) (by simp [RvB])
    have p2 := p1.1.push (o := .loop { state := .ready, pending := none, fn, tmps := a.tmps, params := ps', assign := ca, body := cb, defers := w.heap.size })
      (b := .loop .ready none fn cx.N A.t ps' ca cb w.heap.size) ⟨a.tmps, Array.getElem?_push_size, hf.1, by
        have q := p1.1.push (o := .loop { state := .ready, pending := none, fn, tmps := a.tmps, params := ps', assign := ca, body := cb, defers := w.heap.size }) (b := .obj (.loop { state := .ready, pending := none, fn, tmps := a.tmps, params := ps', assign := ca, body := cb, defers := w.heap.size })) Array.getElem?_push_size
        exact (hf.2.2.step hs p1.2.1).step p1.1 q.2.1⟩
    have hsz : (w.heap.push (.deferred (some []))).size = w.heap.size + 1 := by simp
    have hn0 : H w.heap.size = none := p1.2.2
    have hn1 : H (w.heap.size + 1) = none := by
      have := p2.2.2
      simp only [hsz] at this
      rwa [AH.set_ne _ _ (by omega)] at this
    have hk := p1.2.1.trans p2.2.1
    have hc1 := h w.heap.size (w.heap.size + 1) fn ca cb hca hcb hn0 hn1 (by omega) hfn
    have hsim := p2.1
    simp only [hsz] at hsim hk
    refine ⟨w.heap.size + 1, [markOf w.heap.size], _, { target := .fn (.func gf) y, args := x ++ #[.func (.yield (w.heap.size + 1)) #[] #[]] }, ((w.alloc (.deferred (some []))).alloc (.loop { state := .ready, pending := none, fn, tmps := a.tmps, params := ps', assign := ca, body := cb, defers := w.heap.size })), gf, (x ++ #[.func (.yield (w.heap.size + 1)) #[] #[]]) ++ y, ((w.alloc (.deferred (some []))).alloc (.loop { state := .ready, pending := none, fn, tmps := a.tmps, params := ps', assign := ca, body := cb, defers := w.heap.size })), run_enterLoop_outer _ _ _ _ _, ?_, ?_, ?_, fun h => (by cases h), ?_⟩
    · have hmap : (#[Operand.const (Value.func (Fn.yield (w.heap.size + 1)) #[] #[])].map a.eval) = #[Value.func (Fn.yield (w.heap.size + 1)) #[] #[]] := by simp [Act.eval]
      simp only [resolve, hu, Deferred.ofValue, Sem.run_pure, hmap]
    · intro f' hf'
      simp only [Target.leads, Option.some.injEq] at hf'
      rw [← hf']; exact enterable_fn he
    · simp only [invoke, run_callFunc he]
    · have hargs : RvL S ((w.alloc (.deferred (some []))).alloc (.loop { state := .ready, pending := none, fn, tmps := a.tmps, params := ps', assign := ca, body := cb, defers := w.heap.size })) (first ++ [VV.lit (.func (.yield (w.heap.size + 1)) #[] #[])] ++ cap) ((x ++ #[Value.func (.yield (w.heap.size + 1)) #[] #[]]) ++ y).toList := by
        have e : ((x ++ #[Value.func (.yield (w.heap.size + 1)) #[] #[]]) ++ y).toList = x.toList ++ [Value.func (.yield (w.heap.size + 1)) #[] #[]] ++ y.toList := by simp
        rw [e]
        exact ((hx1.step hs hk).append (RvL.lits [Value.func (Fn.yield (w.heap.size + 1)) #[] #[]])).append (hx2.step hs hk)
      have hcall := hc1 S ((w.alloc (.deferred (some []))).alloc (.loop { state := .ready, pending := none, fn, tmps := a.tmps, params := ps', assign := ca, body := cb, defers := w.heap.size })) _ hsim hargs
      refine ⟨enterable_fn he, fun cs hr => ?_⟩
      obtain ⟨e, w3, fr, hR, rest⟩ := (callsIn_wideAt (ro := cx.ro)).2 hcall |>.2 cs hr
      refine ⟨e, w3, fr, ?_, rest⟩
      have hf' : RvF cx.N S w { A with d := markOf w.heap.size :: A.d } { a with defers := [markOf w.heap.size] ++ a.defers } := ⟨hf.1, by simp [hf.2.1], hf.2.2⟩
      cases e with
      | returned v =>
        obtain ⟨S', H', x', k1, k2, k3, st, jump, k4, k5, k6⟩ := hR
        obtain ⟨ts, q1, q2, q3⟩ := k2.blk _ _ k4
        have hwr := k2.write (c := .obj (.loop { state := .exhausted, pending := jump, fn, tmps := ts, params := ps', assign := ca, body := cb, defers := w.heap.size })) (o := .loop { state := .exhausted, pending := jump, fn, tmps := ts, params := ps', assign := ca, body := cb, defers := w.heap.size }) k4
          (by simp [RvB, k2.lt_of k4])
        have hdel := hwr.1.del (w.heap.size + 1)
        have hall := ((hk.trans k1).trans hwr.2).trans hdel.2
        have hdd : (H'.set (w.heap.size + 1) (.obj (.loop { state := .exhausted, pending := jump, fn, tmps := ts, params := ps', assign := ca, body := cb, defers := w.heap.size }))).del (w.heap.size + 1) = H'.del (w.heap.size + 1) := by
          funext i; simp only [AH.del, AH.set]; split <;> rfl
        rw [hdd] at hdel hall
        refine ⟨jump, _, run_endLoop q1 k5, ?_⟩
        have hfr := hf'.step hs hall
        cases jump with
        | none => exact ⟨by simp, _, _, _, hall, hdel.1, hfr, k6⟩
        | some c =>
          cases c with
          | ret => exact wpIn_ret ⟨by simp, _, _, _, hall, hdel.1, hfr, k6⟩
          | exit id => exact wpIn_exit ⟨by simp, _, _, _, hall, hdel.1, hfr, k6⟩
          | _ => exact k6.elim
      | panicked ch =>
        obtain ⟨S', H', k1, k2, k4⟩ := hR
        exact ⟨by simp, _, _, _, hk.trans k1, k2, hf'.step hs (hk.trans k1), k4⟩
      | outgrown => exact hR.elim
  | region id ops draw =>
    exfalso
    unfold compile compileD at hc
    split at hc
    · dsimp only at hc
      split at hc
      · split at hc <;> cases hc
      · cases hc
    · split at hc <;> cases hc
  | seq x y => simp only [compile] at hc; split at hc <;> cases hc
  | _ => simp [compile] at hc
end Go.PV
end
section
/- How a function is left: marks, deferred calls, recover. -/
set_option linter.unusedVariables false
set_option linter.unusedSimpArgs false
namespace Go.PV
/-- What is asked of a deferred call's ending: also how the one below goes on. -/
def DQ (K : VE → FrameMode → AH → Prop) (S : Nat → Prop) (H : AH) (w : World) : Ending → FrameMode → World → Prop
  | .returned v, u, w' => ∃ S' H' x, Step S H w S' H' w' ∧ Sim S' H' w' ∧ Rv S' w' x v ∧ K (.ret x) u H'
  | .panicked ch, u, w' => ∃ S' H', Step S H w S' H' w' ∧ Sim S' H' w' ∧ K (.pan ch) u H'
  | .outgrown, _, _ => False
def DCalls (P : Program) (f : FuncId) (xs : List VV) (u : FrameMode) (H : AH) (K : VE → FrameMode → AH → Prop) : Prop :=
  ∀ S w (args : Array Value), Sim S H w → RvL S w xs args.toList → CallsDIn (wideAt P none) 0 P f args u w (DQ K S H w)
def leaveR (P : Program) (rs : List ResultVar) (K : VE → AH → Prop) (t : Nat → VV) : List Deferred → FrameMode → AH → Prop
  | [], .returning, H => ∃ x H' x', resV P rs ⟨t, []⟩ H = some x ∧ GhV H x H' x' ∧ K (.ret x') H'
  | [], .panicking ch, H => ∃ H', SubH H' H ∧ K (.pan ch) H'
  | [], .run, _ => False
  | ⟨.collected r, _⟩ :: ds, u, H => u ≠ .run ∧ H r = some (.obj (.deferred (some []))) ∧ leaveR P rs K t ds u (H.del r)
  | ⟨.fn (.func f) cap, args⟩ :: ds, u, H => u ≠ .run ∧ enterable P f = true ∧ ∃ xs H0, GhL H ((args ++ cap).toList.map .lit) H0 xs ∧ DCalls P f xs u H0 fun
      | .ret _, u', H' => leaveR P rs K t ds (settle u') H'
      | .pan ch, u', H' => leaveR P rs K t ds (raised u' ch) H'
  | _ :: _, _, _ => False
def retPostM (P : Program) (rs : List ResultVar) (K : VE → AH → Prop) : APost
  | .normal => fun A H => leaveR P rs K A.t A.d .returning H
  | .ret => fun A H => leaveR P rs K A.t A.d .returning H
  | .panic ch => fun A H => leaveR P rs K A.t A.d (.panicking ch) H
  | _ => fun _ _ => False
theorem leaveR_sound {P : Program} {fn : Func} {K : VE → AH → Prop} {t : Nat → VV} {tmps : Array Value} {S0 : Nat → Prop} {H0 : AH} {w0 : World} : ∀ (ds : List Deferred) (u : FrameMode) (S : Nat → Prop) (H : AH) (w : World), leaveR P fn.results.toList K t ds u H → Step S0 H0 w0 S H w → Sim S H w → RvT S w t tmps →
    LeavesInM (wideAt P none) 0 P fn tmps (RQ K S0 H0 w0) ds u w
  | [], .returning, S, H, w, h, k, hs, ht => by
    obtain ⟨x, H', x', g1, g2, g3⟩ := h
    obtain ⟨v, q1, q2⟩ := resV_sound (N := tmps.size) (a := { tmps := tmps, defers := [] }) hs ⟨rfl, rfl, ht⟩ g1
    obtain ⟨S', p1, p2, p3⟩ := g2 S w v hs q2
    exact ⟨v, q1, S', H', x', k.trans p1, p2, p3, g3⟩
  | [], .panicking ch, S, H, w, h, k, hs, ht => by
    obtain ⟨H', g2, g3⟩ := h
    exact ⟨S, H', k.trans (hs.sub g2).2, (hs.sub g2).1, g3⟩
  | [], .run, S, H, w, h, k, hs, ht => h.elim
  | ⟨.collected r, asg⟩ :: ds, u, S, H, w, h, k, hs, ht => by
    simp only [leaveR] at h
    obtain ⟨hu, hr, h⟩ := h
    refine ⟨hu, .inl ⟨r, _, rfl, run_takeDeferred (hs.blk r _ hr), ?_⟩⟩
    have hwr := hs.write (c := .obj (.deferred none)) (o := .deferred none) hr (by simp [RvB, hs.lt_of hr])
    have hdel := hwr.1.del r
    have hall := hwr.2.trans hdel.2
    have hdd : (H.set r (.obj (.deferred none))).del r = H.del r := by funext i; simp only [AH.del, AH.set]; split <;> rfl
    rw [hdd] at hdel hall
    exact leaveR_sound ds u S _ _ h (k.trans hall) hdel.1 (ht.step hs hall)
  | ⟨.fn (.func f) cap, asg⟩ :: ds, u, S, H, w, h, k, hs, ht => by
    simp only [leaveR] at h
    obtain ⟨hu, he, xs, H1, gh, h⟩ := h
    obtain ⟨S1, a1, a2, a3⟩ := gh S w (asg ++ cap).toList hs (RvL.lits _)
    refine ⟨hu, .inr ⟨fun h => (by cases h), .func f, cap, f, asg ++ cap, rfl, run_callFunc he _ _, fun g hg => ?_, ?_⟩⟩
    · simp only [Target.leads, Option.some.injEq] at hg
      rw [← hg]; exact enterable_fn he
    · refine CallsDIn.mono (h S1 w (asg ++ cap) a2 a3) ?_
      intro e u' w' hq
      cases e with
      | returned v =>
        obtain ⟨S', H', x, g1, g2, g3, g4⟩ := hq
        exact leaveR_sound ds (settle u') S' H' w' g4 ((k.trans a1).trans g1) g2 (ht.step hs (a1.trans g1))
      | panicked ch =>
        obtain ⟨S', H', g1, g2, g4⟩ := hq
        exact leaveR_sound ds (raised u' ch) S' H' w' g4 ((k.trans a1).trans g1) g2 (ht.step hs (a1.trans g1))
      | outgrown => exact hq.elim
  | ⟨.nil, _⟩ :: ds, u, S, H, w, h, k, hs, ht => h.elim
  | ⟨.builtin _ _ _ _, _⟩ :: ds, u, S, H, w, h, k, hs, ht => h.elim
  | ⟨.coroexit _, _⟩ :: ds, u, S, H, w, h, k, hs, ht => h.elim
  | ⟨.fn (.method _) _, _⟩ :: ds, u, S, H, w, h, k, hs, ht => h.elim
  | ⟨.fn (.methodOf _ _) _, _⟩ :: ds, u, S, H, w, h, k, hs, ht => h.elim
  | ⟨.fn (.via _ _ _ _) _, _⟩ :: ds, u, S, H, w, h, k, hs, ht => h.elim
  | ⟨.fn (.yield _) _, _⟩ :: ds, u, S, H, w, h, k, hs, ht => h.elim
theorem frame0 {N : Nat} {S : Nat → Prop} {w : World} {xs : List VV} {args : Array Value} (hx : RvL S w xs args.toList) (hN : xs.length ≤ N) :
    RvF N S w ⟨fun i => xs.getD i undefV, []⟩ { tmps := args ++ Array.replicate (N - args.size) undef, defers := [] } := by
  have hl : args.size = xs.length := by simpa using hx.length
  refine ⟨by simp; omega, rfl, fun i => ?_⟩
  have := RvL.get i hx
  by_cases hi : i < args.size
  · have e : (args ++ Array.replicate (N - args.size) undef).getD i undef = args.toList.getD i undef := by
      simp only [Array.getD_eq_getD_getElem?, List.getD_eq_getElem?_getD]
      rw [Array.getElem?_append_left hi]
      simp
    rw [e]; exact this
  · have e : (args ++ Array.replicate (N - args.size) undef).getD i undef = undef := by
      simp only [Array.getD_eq_getD_getElem?]
      rw [Array.getElem?_append_right (by omega), Array.getElem?_replicate]
      split <;> rfl
    have e2 : xs.getD i undefV = undefV := by
      rw [List.getD_eq_getElem?_getD, List.getElem?_eq_none (by omega)]
      rfl
    show Rv S w (xs.getD i undefV) _
    rw [e, e2]
    rfl
theorem vcalls_introMA {P : Program} {f N : Nat} {rs : List ResultVar} {a : ACode} (hd : FnD P f N rs a) {xs : List VV} {H : AH} {K : VE → AH → Prop} (hN : xs.length ≤ N)
    (h : ACx ⟨P, N, none⟩ a (retPostM P rs K) ⟨fun i => xs.getD i undefV, []⟩ H) : VCalls P f xs H K := by
  obtain ⟨fn, c, hf, hb, rfl, rfl, rfl⟩ := hd
  intro S w args hs hx
  refine callsIn_of_wp_marks hf hb (show (P.funcs[f]?).isSome = true by rw [hf]; rfl) ?_ rfl
  have hw := h c rfl S w _ hs (frame0 hx hN)
  refine wpIn_mono hw ?_
  rintro e a' w' ⟨h0, S', H', A', h1, h2, h3, h4⟩
  cases e with
  | normal => show LeavesInM _ _ _ _ _ _ a'.defers _ _; rw [h3.2.1]; exact leaveR_sound A'.d .returning S' H' w' h4 h1 h2 h3.2.2
  | ret => show LeavesInM _ _ _ _ _ _ a'.defers _ _; rw [h3.2.1]; exact leaveR_sound A'.d .returning S' H' w' h4 h1 h2 h3.2.2
  | panic ch => show LeavesInM _ _ _ _ _ _ a'.defers _ _; rw [h3.2.1]; exact leaveR_sound A'.d (.panicking ch) S' H' w' h4 h1 h2 h3.2.2
  | exit id => exact h4.elim
  | goto l => exact h4.elim
  | outgrown => exact absurd rfl h0
theorem vcalls_introM {P : Program} {f N : Nat} {rs : List ResultVar} {a : ACode} (hd : FnD P f N rs a) {xs : List VV} {H : AH} {K : VE → AH → Prop} (hN : xs.length ≤ N)
    (h : vc ⟨P, N, none⟩ a (retPostM P rs K) ⟨fun i => xs.getD i undefV, []⟩ H) : VCalls P f xs H K :=
  vcalls_introMA hd hN (vc_acx (fun _ _ _ h => h) h)

/-! ### Deferred functions -/
def retPostD (P : Program) (rs : List ResultVar) (u : FrameMode) (K : VE → FrameMode → AH → Prop) : APost := retPost P rs (fun e H => K e u H)
theorem resFin {P : Program} {fn : Func} {N : Nat} {u : FrameMode} {K : VE → FrameMode → AH → Prop} {S0 S : Nat → Prop} {H0 H : AH} {w0 w : World} {A : AF} {a : Act} (k : Step S0 H0 w0 S H w) (hs : Sim S H w) (hf : RvF N S w A a) (hd : A.d = [])
    (h : ∃ x H' x', resV P fn.results.toList A H = some x ∧ GhV H x H' x' ∧ K (.ret x') u H') : a.defers = [] ∧ ∃ v, (results fn a.tmps).run P w = .ok v w ∧ DQ K S0 H0 w0 (.returned v) u w := by
  obtain ⟨x, H'', x', g1, g2, g3⟩ := h
  obtain ⟨v, q1, q2⟩ := resV_sound hs hf g1
  obtain ⟨S'', p1, p2, p3⟩ := g2 S w v hs q2
  exact ⟨hf.2.1.trans hd, v, q1, S'', H'', x', k.trans p1, p2, p3, g3⟩
/-- One that neither defers nor recovers. -/
theorem dcalls_introA {P : Program} {f N : Nat} {rs : List ResultVar} {a : ACode} (hd : FnD P f N rs a) {xs : List VV} {u : FrameMode} {H : AH} {K : VE → FrameMode → AH → Prop} (hN : xs.length ≤ N)
    (h : ACx ⟨P, N, none⟩ a (retPostD P rs u K) ⟨fun i => xs.getD i undefV, []⟩ H) : DCalls P f xs u H K := by
  obtain ⟨fn, c, hf, hb, rfl, rfl, rfl⟩ := hd
  intro S w args hs hx
  refine CallsDIn.mono (callsDIn_of_wp (R := fun e w' => DQ K S H w e u w') hf hb (show (P.funcs[f]?).isSome = true by rw [hf]; rfl) ?_ rfl) ?_
  · have hw := h c rfl S w _ hs (frame0 hx hN)
    refine wpIn_mono hw ?_
    rintro e a' w' ⟨h0, S', H', A', h1, h2, h3, h4⟩
    cases e with
    | normal => exact resFin h1 h2 h3 h4.1 h4.2
    | ret => exact resFin h1 h2 h3 h4.1 h4.2
    | panic ch =>
      obtain ⟨g1, H'', g2, g3⟩ := h4
      exact ⟨h3.2.1.trans g1, S', H'', h1.trans (h2.sub g2).2, (h2.sub g2).1, g3⟩
    | exit id => exact h4.elim
    | goto l => exact h4.elim
    | outgrown => exact absurd rfl h0
  · rintro e u' w' ⟨rfl, hq⟩
    exact hq
/-- What recover hands back, and the mode that it leaves. -/
def recMode : FrameMode → Value × FrameMode
  | .panicking ({ v, recovered := false, goexit := false } :: older) => (v, .panicking ({ v, recovered := true } :: older))
  | u => (.nilIface, u)
/-- Operations that hand a value on. -/
def isMv (o : GOp) : Bool := match o.op, o.g with | .move _, none => true | .assign _, none => true | _, _ => false
def mvV (A : AF) (o : GOp) : AF := match o.op with | .move x => A.put o.dst (A.eval x) | .assign x => A.put o.dst (A.eval x) | _ => A
def mvs : List GOp → AF → AF
  | [], A => A
  | o :: l, A => mvs l (mvV A o)
theorem wanted_none {ops : Array Oper} {o : Oper} (hg : gOk ops o = true) (hn : (gopOf ops o).g = none) (ts : Array Value) : Region.wanted o (yielded ops ts) = true := by
  unfold gOk at hg
  unfold gopOf at hn
  cases hgd' : o.guard with
  | none => simp [Region.wanted, hgd']
  | some p =>
    simp only [hgd'] at hg hn
    obtain ⟨e, he⟩ := Option.isSome_iff_exists.1 hg
    rw [Option.bind_some, he] at hn
    cases hn
theorem mv_opsS {P : Program} {ops : Array Oper} {N : Nat} {S : Nat → Prop} {F : Fence} {Q : Exit → Act → List Frame → World → Prop} {cs : List Frame} {w : World} : ∀ (is : List Nat) (l : List GOp) (A : AF) (a : Act),
    (∀ j : Nat, l[j]? = (is[j]?).bind fun i : Nat => (ops[i]?).map (gopOf ops)) → is.length = l.length → (∀ o ∈ l, isMv o = true ∧ dOk N o.dst) → (∀ (i : Nat) (o : Oper), ops[i]? = some o → gOk ops o = true) → RvF N S w A a →
    (∀ a', RvF N S w (mvs l A) a' → Q .normal a' cs w) → wpOpsSIn F 0 P ops Q is a cs w
  | [], l, A, a, hl, hlen, hm, hg, hf, hQ => by
    have : l = [] := List.eq_nil_of_length_eq_zero (by simpa using hlen.symm)
    subst this
    exact hQ a hf
  | i :: is, [], A, a, hl, hlen, hm, hg, hf, hQ => by simp at hlen
  | i :: is, g :: l, A, a, hl, hlen, hm, hg, hf, hQ => by
    have h0 := hl 0
    simp only [List.getElem?_cons_zero, Option.bind_some] at h0
    obtain ⟨o, ho, hgo⟩ := Option.map_eq_some_iff.1 h0.symm
    obtain ⟨hmv, hd⟩ := hm g (List.mem_cons_self ..)
    have next : ∀ v x, (mvV A g = A.put g.dst x) → Rv S w x v → wpOpsSIn F 0 P ops Q is (a.put o.dst v) cs w := by
      intro v x hx hv
      refine mv_opsS is l (mvV A g) _ (fun j => by have := hl (j + 1); simpa using this) (by simpa using hlen) (fun o' ho' => hm o' (List.mem_cons_of_mem _ ho')) hg ?_ (fun a' h => hQ a' h)
      rw [hx]
      have hdst : g.dst = o.dst := by rw [← hgo]; rfl
      rw [hdst]
      refine hf.put (fun e he => ?_) hv
      rw [hdst, he] at hd
      exact hd
    have hop : g.op = o.op := by rw [← hgo]; rfl
    have hgn : (gopOf ops o).g = none := by
      rw [hgo]
      unfold isMv at hmv
      split at hmv <;> first | assumption | cases hmv
    simp only [wpOpsSIn, ho, wanted_none (hg i o ho) hgn, if_true]
    unfold isMv at hmv
    split at hmv
    · rename_i x e1 e2
      have e1' : o.op = .move x := by rw [← hop, e1]
      refine ⟨fun f hf' => by simp [Oper.about, e1'] at hf', ?_⟩
      have : (execOp a.eval o).run P w = .ok (.value (a.eval x)) w := by simp [execOp, e1']
      rw [this]
      exact next _ _ (by simp [mvV, e1]) (hf.eval x)
    · rename_i x e1 e2
      have e1' : o.op = .assign x := by rw [← hop, e1]
      refine ⟨fun f hf' => by simp [Oper.about, e1'] at hf', ?_⟩
      have : (execOp a.eval o).run P w = .ok (.value (a.eval x)) w := by simp [execOp, e1']
      rw [this]
      exact next _ _ (by simp [mvV, e1]) (hf.eval x)
    · cases hmv
/-- One whose first region is a call of recover, and what hands its value on. -/
theorem dcalls_recoverL {P : Program} {f N : Nat} {rs : List ResultVar} {a : ACode} {d : Nat} {ts : Array TypeId} {l : List GOp} (hd : FnD P f N rs (.seq (.reg (⟨some d, .call { callee := .builtin .recover, args := #[], argTypes := ts }, none⟩ :: l)) a)) (hmv : ∀ o ∈ l, isMv o = true ∧ dOk N o.dst)
    {xs : List VV} {u : FrameMode} {H : AH} {K : VE → FrameMode → AH → Prop} (hN : xs.length ≤ N) (hdN : d < N)
    (h : ACx ⟨P, N, none⟩ a (retPostD P rs (recMode u).2 K) (mvs l ⟨upd (fun i => xs.getD i undefV) d (.lit (recMode u).1), []⟩) H) : DCalls P f xs u H K := by
  obtain ⟨fn, c, hf, hb, rfl, rfl, hc⟩ := hd
  intro S w args hs hx
  refine callsDIn_of_wpSIn hf hb (show (P.funcs[f]?).isSome = true by rw [hf]; rfl) ?_
  intro c₀ cs hu
  cases c with
  | seq c1 c2 =>
    simp only [compile] at hc
    split at hc
    · cases hc
    · simp only [ACode.seq.injEq] at hc
      obtain ⟨hc1, hc2⟩ := hc
      refine wpSIn_seq ?_
      cases c1 with
      | region id ops draw =>
        unfold compile compileD at hc1
        split at hc1
        · dsimp only at hc1
          split at hc1
          · split at hc1 <;> cases hc1
          · cases hc1
        · rename_i hdr
          split at hc1
          · rename_i hgok
            simp only [ACode.reg.injEq] at hc1
            have hdr' : draw = false := by simpa using hdr
            subst hdr'
            have hgo : ∀ i o, ops[i]? = some o → gOk ops o = true := fun i o ho => by
              have hi : i < ops.size := by
                rcases Nat.lt_or_ge i ops.size with h | h
                · exact h
                · rw [Array.getElem?_eq_none h] at ho; cases ho
              rw [Array.getElem?_eq_getElem hi] at ho
              cases ho
              exact Array.all_eq_true.1 hgok i hi
            have hmapj : ∀ j : Nat, ((ops[j]?).map (gopOf ops)) = ((⟨some d, .call { callee := .builtin .recover, args := #[], argTypes := ts }, none⟩ : GOp) :: l)[j]? := fun j => by
              rw [← hc1, List.getElem?_map, Array.getElem?_toList]
            have hlen : ops.size = l.length + 1 := by
              have := congrArg List.length hc1
              simpa using this
            obtain ⟨o, ho0, hgo0⟩ := Option.map_eq_some_iff.1 (hmapj 0)
            have hdst : o.dst = some d := congrArg GOp.dst hgo0
            have hop : o.op = .call { callee := .builtin .recover, args := #[], argTypes := ts } := congrArg GOp.op hgo0
            have hgd : (gopOf ops o).g = none := congrArg GOp.g hgo0
            refine wpSIn_region ?_
            have hw := wanted_none (hgo 0 o ho0) hgd
            have hex : ∀ (ρ : Operand → Value) (w : World), (execOp ρ o).run P w = .ok .recover w := by
              intro ρ w
              simp [execOp, hop, resolve, invoke, builtin]
            have hab : ∀ (ρ : Operand → Value) (w : World) f', o.about P w ρ = some f' → (wideAt P none).fn f' := by
              intro ρ w f' he
              simp [Oper.about, hop, resolve, Target.leads] at he
            rw [hlen, List.range_succ_eq_map]
            simp only [wpOpsSIn, ho0, hw, if_true, hex]
            refine ⟨hab _ _, ?_⟩
            have key : ∀ (v : Value) (u' : FrameMode), recMode u = (v, u') → wpOpsSIn (wideAt P none) 0 P ops (Exit.thenS (c2.wpSIn (wideAt P none) 0 P (bodyPostS P fn c₀ cs (DQ K S H w))) (bodyPostS P fn c₀ cs (DQ K S H w))) ((List.range l.length).map Nat.succ)
                (({ tmps := args ++ Array.replicate (fn.ntmps - args.size) undef, defers := [] } : Act).put o.dst v) ({ c₀ with mode := u' } :: cs) w := by
              intro v u' hrm
              rw [hrm] at h
              have hf0 := frame0 (N := fn.ntmps) hx hN
              have hf1 : RvF fn.ntmps S w (AF.put ⟨fun i => xs.getD i undefV, []⟩ o.dst (.lit v)) (Act.put { tmps := args ++ Array.replicate (fn.ntmps - args.size) undef, defers := [] } o.dst v) :=
                hf0.put (fun e he => by rw [hdst] at he; cases he; exact hdN) rfl
              refine mv_opsS _ l _ _ (fun j => ?_) (by simp) hmv hgo hf1 fun a2 hf2 => ?_
              · have := hmapj (j + 1)
                rw [List.getElem?_cons_succ] at this
                rw [← this, List.getElem?_map]
                by_cases hj : j < l.length
                · rw [List.getElem?_range hj]; rfl
                · rw [List.getElem?_eq_none (by simpa using hj), Array.getElem?_eq_none (by omega)]; rfl
              · rw [hdst] at hf2
                refine wpSIn_of_wpIn rfl ?_
                have hw := h c2 hc2 S w _ hs hf2
                refine wpIn_mono hw ?_
                rintro e a' w' ⟨h0, S', H', A', h1, h2, h3, h4⟩
                cases e with
                | normal =>
                  obtain ⟨g1, v', g2, g3⟩ := resFin h1 h2 h3 h4.1 h4.2
                  exact ⟨g1, u', rfl, v', g2, g3⟩
                | ret =>
                  obtain ⟨g1, v', g2, g3⟩ := resFin h1 h2 h3 h4.1 h4.2
                  exact ⟨g1, u', rfl, v', g2, g3⟩
                | panic ch =>
                  obtain ⟨g1, H'', g2, g3⟩ := h4
                  exact ⟨h3.2.1.trans g1, u', rfl, S', H'', h1.trans (h2.sub g2).2, (h2.sub g2).1, g3⟩
                | exit id => exact h4.elim
                | goto l => exact h4.elim
                | outgrown => exact absurd rfl h0
            by_cases hp : ∃ v older, u = .panicking ({ v, recovered := false, goexit := false } :: older)
            · obtain ⟨v, older, hp⟩ := hp
              have hrd : recoverD (c₀ :: cs) = some (v, { c₀ with mode := .panicking ({ v, recovered := true } :: older) } :: cs) := by
                simp only [recoverD, hu, hp]
              simp only [hrd]
              exact key v _ (by rw [hp]; rfl)
            · have hrm : recMode u = (.nilIface, u) := by
                unfold recMode
                split
                · rename_i v older; exact absurd ⟨v, older, rfl⟩ hp
                · rfl
              have hrd : recoverD (c₀ :: cs) = none := by
                simp only [recoverD, hu]
                split
                · rename_i v older; exact absurd ⟨v, older, rfl⟩ hp
                · rfl
              have hc0 : ({ c₀ with mode := u } : Frame) = c₀ := by subst hu; rfl
              simp only [hrd]
              have := key .nilIface u hrm
              rw [hc0] at this
              exact this
          · cases hc1
      | seq x y => simp only [compile] at hc1; split at hc1 <;> cases hc1
      | _ => simp [compile] at hc1
  | region id ops draw =>
    exfalso
    unfold compile compileD at hc
    split at hc
    · dsimp only at hc
      split at hc
      · split at hc <;> cases hc
      · cases hc
    · split at hc <;> cases hc
  | _ => simp [compile] at hc
end Go.PV
end
section
/- Calls and what stands behind code, kept asg claims on code: there a ghost may step in. -/
set_option linter.unusedVariables false
set_option linter.unusedSimpArgs false
namespace Go.PV
open Go
theorem compileD_seq {P : Program} {ops : Array Oper} {a b : ACode} : compileD P ops ≠ .seq a b := by
  unfold compileD
  dsimp only
  split
  · split
    · intro h; cases h
    · intro h; cases h
  · intro h; cases h
/-- What no step opens. -/
structure Hold (p : Prop) : Prop where
  out : p
end Go.PV
end
section
/- Lists by content. -/
set_option linter.unusedVariables false
set_option linter.unusedSimpArgs false
namespace Go.PV
theorem wrap_ok {n : Int} (h : -9223372036854775808 ≤ n) (h' : n ≤ 9223372036854775807) : IntKind.i64.wrap n = n := by rw [IntKind.wrap_i64]; omega
theorem cl_int (k : IntKind) (n : Int) : VV.cells (.lit (.int k n)) = [.lit (.int k n)] := rfl
theorem on_int (k : IntKind) (n : Int) : VV.one (.lit (.int k n)) = true := rfl
theorem cl_bool (b : Bool) : VV.cells (.lit (.bool b)) = [.lit (.bool b)] := rfl
theorem on_bool (b : Bool) : VV.one (.lit (.bool b)) = true := rfl
theorem cl_str (b : ByteArray) : VV.cells (.lit (.string b)) = [.lit (.string b)] := rfl
theorem on_str (b : ByteArray) : VV.one (.lit (.string b)) = true := rfl
theorem on_sl (a : Option Addr) (n c : Nat) : VV.one (.lit (.slice a n c)) = true := rfl
theorem cl_agg (cs : List VV) : VV.cells (.agg cs) = cs := rfl
theorem cl_slice (ex : Bool) (n : Nat) (cs : List VV) : VV.cells (.slice ex n cs) = [.slice ex n cs] := rfl
theorem on_slice (ex : Bool) (n : Nat) (cs : List VV) : VV.one (.slice ex n cs) = true := rfl
theorem ldV_f (n : Nat) (x : VV) (cs : List VV) : ldV n false (x :: cs) = some x := rfl
theorem ldV_t3 (x0 x1 x2 : VV) (cs : List VV) : ldV 3 true (x0 :: x1 :: x2 :: cs) = some (.agg [x0, x1, x2]) := by simp [ldV]
theorem ldV_t4 (x0 x1 x2 x3 : VV) (cs : List VV) : ldV 4 true (x0 :: x1 :: x2 :: x3 :: cs) = some (.agg [x0, x1, x2, x3]) := by simp [ldV]
abbrev iV (n : Int) : VV := .lit (.int .i64 n)
/-- The cells of a list's elements. -/
def encC {α : Type} (enc : α → List VV) (l : List α) : List VV := (l.map enc).flatten
abbrev encS {α : Type} (enc : α → List VV) (l : List α) : VV := .slice false l.length (encC enc l)
section
variable {α : Type} {enc : α → List VV} {k : Nat}
theorem encC_nil : encC enc [] = [] := rfl
theorem encC_cons (x : α) (l : List α) : encC enc (x :: l) = enc x ++ encC enc l := rfl
theorem encC_append (l m : List α) : encC enc (l ++ m) = encC enc l ++ encC enc m := by simp [encC]
theorem encC_length (hk : ∀ x, (enc x).length = k) (l : List α) : (encC enc l).length = l.length * k := by
  induction l with
  | nil => simp [encC]
  | cons x l ih => rw [encC_cons, List.length_append, ih, hk, List.length_cons, Nat.succ_mul]; omega
theorem encC_drop (hk : ∀ x, (enc x).length = k) {l : List α} {i : Nat} (hi : i < l.length) : (encC enc l).drop (i * k) = enc l[i] ++ encC enc (l.drop (i + 1)) := by
  induction l generalizing i with
  | nil => simp at hi
  | cons x l ih =>
    cases i with
    | zero => simp [encC_cons]
    | succ i =>
      rw [encC_cons, List.drop_append]
      have h1 : (enc x).drop ((i + 1) * k) = [] := List.drop_eq_nil_of_le (by rw [hk]; rw [Nat.succ_mul]; omega)
      have h2 : (i + 1) * k - (enc x).length = i * k := by rw [hk, Nat.succ_mul]; omega
      rw [h1, h2, List.nil_append, ih (by simpa using hi)]
      rfl
theorem encC_drop1 {enc : α → VV} {l : List α} {i : Nat} (hi : i < l.length) : (encC (fun x => [enc x]) l).drop i = enc l[i] :: encC (fun x => [enc x]) (l.drop (i + 1)) := by
  have := encC_drop (enc := fun x => [enc x]) (k := 1) (fun _ => rfl) hi
  simpa using this
end
/-- What a function value hands back, at a state. -/
def FnAt (P : Program) (f : VV) (xs : List VV) (y : VV) (H : AH) : Prop := ∀ K : VE → AH → Prop, K (.ret y) H → vcCall P none f xs H K
theorem FnAt.lit {P : Program} {g : FuncId} {xs : List VV} {y : VV} {H : AH} (he : enterable P g = true) (h : PureF P g xs y) : FnAt P (.lit (.func (.func g) #[] #[])) xs y H := fun K hk => by
  rw [s_callL]; exact ⟨he, h.use hk⟩
theorem FnAt.cap {P : Program} {g : FuncId} {first cap xs : List VV} {y : VV} {H : AH} (he : enterable P g = true) (h : ∀ K : VE → AH → Prop, K (.ret y) H → VCalls P g (first ++ xs ++ cap) H K) : FnAt P (.func (.func g) first cap) xs y H := fun K hk => ⟨he, h K hk⟩
def idxF {α : Type} (p : α → Bool) (l : List α) : Int := match l.findIdx? p with | some i => i | none => -1
theorem idxF_found {α : Type} {p : α → Bool} {l : List α} {i : Nat} (hi : i < l.length) (hp : p l[i] = true) (hj : ∀ j (h : j < i), p l[j] = false) : idxF p l = i := by
  have : l.findIdx? p = some i := by
    rw [List.findIdx?_eq_some_iff_getElem]
    exact ⟨hi, hp, fun j h => by rw [hj j h]; simp⟩
  simp [idxF, this]
theorem idxF_none {α : Type} {p : α → Bool} {l : List α} (hj : ∀ j (h : j < l.length), p l[j] = false) : idxF p l = -1 := by
  have : l.findIdx? p = none := by
    rw [List.findIdx?_eq_none_iff]
    intro x hx
    obtain ⟨i, hi, rfl⟩ := List.getElem_of_mem hx
    exact hj i hi
  simp [idxF, this]
end Go.PV
end
section
/- Blocks, slices that are read, slices that are built. -/
set_option linter.unusedVariables false
set_option linter.unusedSimpArgs false
namespace Go.PV
theorem AH.get (H : AH) (r i : Nat) (b : Blk) : (H.set r b) i = if i = r then some b else H i := rfl
theorem AH.set_none {H : AH} {r i : Nat} {b : Blk} : (H.set r b) i = none ↔ (¬ i = r ∧ ¬ r = i) ∧ H i = none := by
  rw [AH.get]
  by_cases h : i = r
  · simp [h]
  · simp [h, Ne.symm h]
theorem AH.ne_of {H : AH} {r i : Nat} {b : Blk} (h : H i = some b) (hr : H r = none) : ¬ i = r ∧ ¬ r = i := ⟨fun e => (by rw [e, hr] at h; cases h), fun e => (by rw [← e, hr] at h; cases h)⟩
theorem SubH.trans {H1 H2 H3 : AH} (h : SubH H1 H2) (k : SubH H2 H3) : SubH H1 H3 := fun r b hb => k r b (h r b hb)
theorem SubH.new {H : AH} {r : Nat} {b : Blk} (hr : H r = none) : SubH H (H.set r b) := (SubH.refl H).of_set hr
theorem SubH.none {H1 H2 : AH} (h : SubH H1 H2) {r : Nat} (hr : H2 r = none) : H1 r = none := by
  cases e : H1 r with
  | none => rfl
  | some b => rw [h r b e] at hr; cases hr
theorem SubH.set {H1 H2 : AH} (h : SubH H1 H2) (r : Nat) (b : Blk) : SubH (H1.set r b) (H2.set r b) := fun i c hc => by
  rw [AH.get] at hc ⊢
  split at hc
  · rename_i e; rw [if_pos e]; exact hc
  · rename_i e; rw [if_neg e]; exact h i c hc
theorem AH.comm {H : AH} {r i : Nat} (b c : Blk) (h : ¬ i = r) : (H.set r b).set i c = (H.set i c).set r b := AH.set_comm H b c h
/-! ### New blocks: not looked into before the block has its name -/
def allNew (H : AH) (p : Nat → Prop) : Prop := ∀ r, H r = none → p r
@[congr] theorem allNew_congr {H H' : AH} {p : Nat → Prop} (h : H = H') : allNew H p = allNew H' p := by rw [h]
theorem allNew_intro {H : AH} {p : Nat → Prop} (h : ∀ r, H r = none → p r) : allNew H p := h
def allocA (z : Option (List Value)) (e : TypeId) (H : AH) (K : VE → AH → Prop) : Prop :=
  match z with
  | some zs => allNew H fun r => K (.ret (ptrV r 0)) (H.set r (.cells e (zs.map .lit) 0))
  | none => False
theorem n_alloc (P : Program) (e : TypeId) (H : AH) (K : VE → AH → Prop) : vcAlloc P e H K = allocA (zeroT P e) e H K := rfl
theorem n_allocS (zs : List Value) (e : TypeId) (H : AH) (K : VE → AH → Prop) : allocA (some zs) e H K = allNew H fun r => K (.ret (ptrV r 0)) (H.set r (.cells e (zs.map .lit) 0)) := rfl
theorem n_box (e : TypeId) (x : VV) (H : AH) (K : VE → AH → Prop) : vcBox e x H K = allNew H fun r => K (.ret (ptrV r 0)) (H.set r (.cells e x.cells 0)) := rfl
def makeB (z : Option (List Value)) (e k b : Nat) (l c : Int) (H : AH) (K : VE → AH → Prop) : Prop :=
  match z with
  | some zs => zs.length = k ∧ 0 ≤ l ∧ l ≤ c ∧ (b : Int) * c ≤ 281474976710656 ∧ c ≤ 9223372036854775807 ∧
        allNew H fun r => K (.ret (.lit (.slice (some ⟨r, 0, none⟩) l.toNat c.toNat))) (H.set r (.cells e ((List.replicate c.toNat zs).flatten.map .lit) 0))
  | none => False
def makeA (P : Program) (t : Option (TypeId × Nat × Nat)) (l c : VV) (H : AH) (K : VE → AH → Prop) : Prop :=
  match t, l, c with
  | some (e, k, b), .lit (.int _ l), .lit (.int _ c) => makeB (zeroT P e) e k b l c H K
  | _, _, _ => False
section
variable (P : Program) (t : TypeId) (H : AH) (K : VE → AH → Prop)
/-- What is read. -/
def ldB (x : Option VV) (H : AH) (K : VE → AH → Prop) : Prop := match x with | some x => K (.ret x) H | none => False
def ldA (x : Option (Nat × Bool)) (b : Option Blk) (o : Nat) (H : AH) (K : VE → AH → Prop) : Prop :=
  match x, b with
  | some (n, ag), some (.cells _ cs _) => ldB (ldV n ag (cs.drop o)) H K
  | _, _ => False
def ldC (x : Option (Nat × Bool)) (cs : List VV) (H : AH) (K : VE → AH → Prop) : Prop :=
  match x with
  | some (n, ag) => ldB (ldV n ag cs) H K
  | none => False
theorem n_ldI (cs : List VV) : vcLoad P t (.iptr cs) H K = ldC (ldT P t) cs H K := by
  unfold vcLoad ldC; cases ldT P t <;> rfl
theorem n_ldP (r o : Nat) : vcLoad P t (.lit (.pointer (some ⟨r, o, none⟩))) H K = ldA (ldT P t) (H r) o H K := by
  unfold vcLoad ldA
  cases ldT P t with
  | none => rfl
  | some p =>
    cases hr : H r with
    | none => simp only [hr]
    | some b => cases b <;> simp only [hr] <;> rfl
theorem n_ldA (n : Nat) (ag : Bool) (e : TypeId) (cs : List VV) (sp o : Nat) : ldA (some (n, ag)) (some (.cells e cs sp)) o H K = ldB (ldV n ag (cs.drop o)) H K := rfl
theorem n_ldC (n : Nat) (ag : Bool) (cs : List VV) : ldC (some (n, ag)) cs H K = ldB (ldV n ag cs) H K := rfl
theorem n_ldB (x : VV) : ldB (some x) H K = K (.ret x) H := rfl
def faA (x : Option (Nat × Nat × Bool)) (y : Nat → VV) (H : AH) (K : VE → AH → Prop) : Prop := match x with | some (off, n, _) => n ≠ 0 ∧ K (.ret (y off)) H | none => False
theorem n_faI (f : Nat) (cs : List VV) : vcFieldAddr P t (.iptr cs) f H K = faA (flT P t f) (fun off => .iptr (cs.drop off)) H K := by
  unfold vcFieldAddr faA; cases flT P t f <;> rfl
theorem n_faP (f r o : Nat) : vcFieldAddr P t (.lit (.pointer (some ⟨r, o, none⟩))) f H K = faA (flT P t f) (fun off => .lit (.pointer (some ⟨r, o + off, none⟩))) H K := by
  unfold vcFieldAddr faA; cases flT P t f <;> rfl
theorem n_faA (off n : Nat) (ag : Bool) (y : Nat → VV) : faA (some (off, n, ag)) y H K = (n ≠ 0 ∧ K (.ret (y off)) H) := rfl
def stA (z : Option Nat) (b : Option Blk) (r o : Nat) (xs : List VV) (H : AH) (K : VE → AH → Prop) : Prop :=
  match b with
  | some (.cells e cs sp) => z = some xs.length ∧ xs.all VV.one = true ∧ o + xs.length ≤ cs.length ∧ K (.ret undefV) (H.set r (.cells e (setAt cs o xs) sp))
  | _ => False
theorem n_stP (r o : Nat) (x : VV) : vcStore P t (.lit (.pointer (some ⟨r, o, none⟩))) x H K = stA (szT P t) (H r) r o x.cells H K := by
  unfold vcStore stA
  cases hr : H r with
  | none => simp only [hr]
  | some b => cases b <;> simp only [hr]
theorem n_stA (z : Option Nat) (e : TypeId) (cs : List VV) (sp r o : Nat) (xs : List VV) : stA z (some (.cells e cs sp)) r o xs H K = (z = some xs.length ∧ xs.all VV.one = true ∧ o + xs.length ≤ cs.length ∧ K (.ret undefV) (H.set r (.cells e (setAt cs o xs) sp))) := rfl
/-- Indexing, by the table. -/
def ixA (x : Option (TypeId × Nat × Nat)) (a : VV) (j : Int) (H : AH) (K : VE → AH → Prop) : Prop :=
  match x, a with
  | some (_, k, _), .slice _ n cs => (0 ≤ j ∧ j < (n : Int)) ∧ K (.ret (.iptr (cs.drop (j.toNat * k)))) H
  | some (_, k, _), .lit (.slice (some ⟨r, o, none⟩) n _) => (0 ≤ j ∧ j < (n : Int)) ∧ K (.ret (.lit (.pointer (some ⟨r, o + j.toNat * k, none⟩)))) H
  | _, _ => False
theorem n_ixS (ex : Bool) (n : Nat) (cs : List VV) (q : IntKind) (j : Int) : vcIndexAddr P t (.slice ex n cs) (.lit (.int q j)) H K = ixA (elT P t) (.slice ex n cs) j H K := by
  unfold vcIndexAddr ixA; cases elT P t <;> rfl
theorem n_ixL (r o n c : Nat) (q : IntKind) (j : Int) : vcIndexAddr P t (.lit (.slice (some ⟨r, o, none⟩) n c)) (.lit (.int q j)) H K = ixA (elT P t) (.lit (.slice (some ⟨r, o, none⟩) n c)) j H K := by
  unfold vcIndexAddr ixA; cases elT P t <;> rfl
theorem n_ixA1 (e k b : Nat) (ex : Bool) (n : Nat) (cs : List VV) (j : Int) : ixA (some (e, k, b)) (.slice ex n cs) j H K = ((0 ≤ j ∧ j < (n : Int)) ∧ K (.ret (.iptr (cs.drop (j.toNat * k)))) H) := rfl
theorem n_ixA2 (e k b : Nat) (r o n c : Nat) (j : Int) : ixA (some (e, k, b)) (.lit (.slice (some ⟨r, o, none⟩) n c)) j H K = ((0 ≤ j ∧ j < (n : Int)) ∧ K (.ret (.lit (.pointer (some ⟨r, o + j.toNat * k, none⟩)))) H) := rfl
theorem n_lenS (ex : Bool) (n : Nat) (cs : List VV) : vcLen P t (.slice ex n cs) H K = (elT P t ≠ none ∧ K (.ret (intV n)) H) := rfl
theorem n_lenL (a : Option Addr) (n c : Nat) : vcLen P t (.lit (.slice a n c)) H K = (elT P t ≠ none ∧ K (.ret (intV n)) H) := rfl
end
/-! The rest of a run isn't looked into before it is come to. -/
section
variable {P : Program} {t : TypeId} {H : AH} {K : VE → AH → Prop} {a a' x x' : VV}
@[congr] theorem ldB_congr {x x' : Option VV} (h : x = x') : ldB x H K = ldB x' H K := by rw [h]
@[congr] theorem ldA_congr {x x' : Option (Nat × Bool)} {b b' : Option Blk} {o o' : Nat} (h : x = x') (h2 : b = b') (h3 : o = o') : ldA x b o H K = ldA x' b' o' H K := by rw [h, h2, h3]
@[congr] theorem ldC_congr {x x' : Option (Nat × Bool)} {cs cs' : List VV} (h : x = x') (h2 : cs = cs') : ldC x cs H K = ldC x' cs' H K := by rw [h, h2]
@[congr] theorem faA_congr {x x' : Option (Nat × Nat × Bool)} {y : Nat → VV} (h : x = x') : faA x y H K = faA x' y H K := by rw [h]
@[congr] theorem stA_congr {z z' : Option Nat} {b b' : Option Blk} {r r' o o' : Nat} {xs xs' : List VV} (h : z = z') (h2 : b = b') (h3 : r = r') (h4 : o = o') (h5 : xs = xs') : stA z b r o xs H K = stA z' b' r' o' xs' H K := by rw [h, h2, h3, h4, h5]
@[congr] theorem ixA_congr {x x' : Option (TypeId × Nat × Nat)} {j j' : Int} (h : x = x') (h2 : a = a') (h3 : j = j') : ixA x a j H K = ixA x' a' j' H K := by rw [h, h2, h3]
@[congr] theorem vcLoad_congr (h : a = a') : vcLoad P t a H K = vcLoad P t a' H K := by rw [h]
@[congr] theorem vcStore_congr (h : a = a') (h2 : x = x') : vcStore P t a x H K = vcStore P t a' x' H K := by rw [h, h2]
@[congr] theorem vcNil_congr (h : a = a') : vcNil a H K = vcNil a' H K := by rw [h]
@[congr] theorem vcFieldAddr_congr {f : Nat} (h : a = a') : vcFieldAddr P t a f H K = vcFieldAddr P t a' f H K := by rw [h]
@[congr] theorem vcField_congr {f : Nat} (h : a = a') : vcField P t a f H K = vcField P t a' f H K := by rw [h]
@[congr] theorem vcIndexAddr_congr (h : a = a') (h2 : x = x') : vcIndexAddr P t a x H K = vcIndexAddr P t a' x' H K := by rw [h, h2]
@[congr] theorem vcBin_congr {op : BinOp} {ox oy : Operand} (h : a = a') (h2 : x = x') : vcBin P op t ox oy a x H K = vcBin P op t ox oy a' x' H K := by rw [h, h2]
@[congr] theorem vcUn_congr {op : UnOp} (h : a = a') : vcUn op a H K = vcUn op a' H K := by rw [h]
@[congr] theorem vcLen_congr (h : a = a') : vcLen P t a H K = vcLen P t a' H K := by rw [h]
@[congr] theorem vcExtract_congr {i : Nat} (h : a = a') : vcExtract a i H K = vcExtract a' i H K := by rw [h]
@[congr] theorem vcIface_congr (h : a = a') : vcIface P t a H K = vcIface P t a' H K := by rw [h]
@[congr] theorem AppendA_congr (h : a = a') (h2 : x = x') : AppendA P t a x H K = AppendA P t a' x' H K := by rw [h, h2]
@[congr] theorem vcCopy_congr (h : a = a') (h2 : x = x') : vcCopy P t a x H K = vcCopy P t a' x' H K := by rw [h, h2]
@[congr] theorem vcCall_congr {ro : Option Nat} {xs xs' : List VV} (h : a = a') (h2 : xs = xs') : vcCall P ro a xs H K = vcCall P ro a' xs' H K := by rw [h, h2]
@[congr] theorem vcBuiltin_congr {b : Builtin} {ts : List TypeId} {xs xs' : List VV} (h2 : xs = xs') : vcBuiltin P b ts xs H K = vcBuiltin P b ts xs' H K := by rw [h2]
@[congr] theorem VCalls_congr {f : FuncId} {xs xs' : List VV} (h2 : xs = xs') : VCalls P f xs H K = VCalls P f xs' H K := by rw [h2]
@[congr] theorem vcBuild_congr {ps ps' : List (Nat × VV)} (h2 : ps = ps') : vcBuild P t ps H K = vcBuild P t ps' H K := by rw [h2]
@[congr] theorem vcBuildSlice_congr {n : Nat} {ps ps' : List (Nat × VV)} (h2 : ps = ps') : vcBuildSlice P t n ps H K = vcBuildSlice P t n ps' H K := by rw [h2]
@[congr] theorem allocA_congr {z z' : Option (List Value)} {e : TypeId} (h : z = z') : allocA z e H K = allocA z' e H K := by rw [h]
@[congr] theorem makeA_congr {z z' : Option (TypeId × Nat × Nat)} (h : z = z') (h2 : a = a') (h3 : x = x') : makeA P z a x H K = makeA P z' a' x' H K := by rw [h, h2, h3]
@[congr] theorem makeB_congr {z z' : Option (List Value)} {e k b : Nat} {l c l' c' : Int} (h : z = z') (h2 : l = l') (h3 : c = c') : makeB z e k b l c H K = makeB z' e k b l' c' H K := by rw [h, h2, h3]
@[congr] theorem vcBox_congr {e : TypeId} (h : a = a') : vcBox e a H K = vcBox e a' H K := by rw [h]
end
section
variable {P : Program} {H H0 : AH} {K : VE → AH → Prop}
/-! ### Reading -/
def PtR (H : AH) (a : VV) (cs : List VV) : Prop := a = .iptr cs ∨ ∃ r o e bs sp, a = ptrV r o ∧ H r = some (.cells e bs sp) ∧ bs.drop o = cs
def SlR (H : AH) (v : VV) (n : Nat) (cs : List VV) : Prop := (∃ ex, v = .slice ex n cs) ∨ (v = .lit (.slice none 0 0) ∧ n = 0 ∧ cs = []) ∨ ∃ r o c e bs sp, v = .lit (.slice (some ⟨r, o, none⟩) n c) ∧ H r = some (.cells e bs sp) ∧ bs.drop o = cs
theorem PtR.mono {H H' : AH} {a : VV} {cs : List VV} (h : PtR H a cs) (hs : SubH H H') : PtR H' a cs := by
  rcases h with rfl | ⟨r, o, e, bs, sp, rfl, hr, hd⟩
  · exact .inl rfl
  · exact .inr ⟨r, o, e, bs, sp, rfl, hs _ _ hr, hd⟩
theorem SlR.mono {H H' : AH} {v : VV} {n : Nat} {cs : List VV} (h : SlR H v n cs) (hs : SubH H H') : SlR H' v n cs := by
  rcases h with h | h | ⟨r, o, c, e, bs, sp, rfl, hr, hd⟩
  · exact .inl h
  · exact .inr (.inl h)
  · exact .inr (.inr ⟨r, o, c, e, bs, sp, rfl, hs _ _ hr, hd⟩)
theorem SlR.len {t : TypeId} {v : VV} {n : Nat} {cs : List VV} (h : SlR H v n cs) (ht : elT P t ≠ none) (k : K (.ret (intV n)) H) : vcLen P t v H K := by
  rcases h with ⟨ex, rfl⟩ | ⟨rfl, rfl, rfl⟩ | ⟨r, o, c, e, bs, sp, rfl, hr, hd⟩
  · exact ⟨ht, k⟩
  · exact ⟨ht, k⟩
  · exact ⟨ht, k⟩
theorem SlR.index {t e : TypeId} {k b : Nat} {v : VV} {n : Nat} {cs : List VV} (h : SlR H v n cs) (ht : elT P t = some (e, k, b)) {q : IntKind} {j : Int} (h0 : 0 ≤ j) (h1 : j < (n : Int))
    (hk : ∀ a, PtR H a (cs.drop (j.toNat * k)) → K (.ret a) H) : vcIndexAddr P t v (.lit (.int q j)) H K := by
  rcases h with ⟨ex, rfl⟩ | ⟨rfl, rfl, rfl⟩ | ⟨r, o, c, e', bs, sp, rfl, hr, hd⟩
  · simp only [vcIndexAddr, ht]; exact ⟨⟨h0, h1⟩, hk _ (.inl rfl)⟩
  · omega
  · simp only [vcIndexAddr, ht]; exact ⟨⟨h0, h1⟩, hk _ (.inr ⟨r, _, e', bs, sp, rfl, hr, by rw [← hd, List.drop_drop]⟩)⟩
theorem PtR.field {s : TypeId} {f off n : Nat} {ag : Bool} {a : VV} {cs : List VV} (h : PtR H a cs) (hf : flT P s f = some (off, n, ag)) (hn : n ≠ 0) (hk : ∀ a', PtR H a' (cs.drop off) → K (.ret a') H) : vcFieldAddr P s a f H K := by
  rcases h with rfl | ⟨r, o, e, bs, sp, rfl, hr, hd⟩
  · simp only [vcFieldAddr, hf]; exact ⟨hn, hk _ (.inl rfl)⟩
  · simp only [vcFieldAddr, hf, ptrV]; exact ⟨hn, hk _ (.inr ⟨r, _, e, bs, sp, rfl, hr, by rw [← hd, List.drop_drop]⟩)⟩
theorem PtR.load {t : TypeId} {n : Nat} {ag : Bool} {a : VV} {cs : List VV} {x : VV} (h : PtR H a cs) (ht : ldT P t = some (n, ag)) (hx : ldV n ag cs = some x) (k : K (.ret x) H) : vcLoad P t a H K := by
  rcases h with rfl | ⟨r, o, e, bs, sp, rfl, hr, hd⟩
  · simp only [vcLoad, ht, hx]; exact k
  · simp only [vcLoad, ht, ptrV, hr, hd, hx]; exact k
/-- What hands back one value at a state, and leaves what was there. -/
def ReadF (P : Program) (f : FuncId) (xs : List VV) (x : VV) (H : AH) : Prop := VCalls P f xs H (fun e H' => e = .ret x ∧ SubH H H')
theorem ReadF.use {f : FuncId} {xs : List VV} {x : VV} (h : ReadF P f xs x H) (k : K (.ret x) H) : VCalls P f xs H K := fun S w args hs hx =>
  (h S w args hs hx).mono fun e w' hq => by
    cases e with
    | returned v =>
      obtain ⟨S', H', y, h1, h2, h3, h4, h5⟩ := hq
      cases h4
      exact ⟨S', H, _, h1.trans (h2.sub h5).2, (h2.sub h5).1, h3, k⟩
    | panicked ch => obtain ⟨S', H', h1, h2, h4, h5⟩ := hq; cases h4
    | outgrown => exact hq
/-- What hands back a value that stands for one at a state, all else forgotten. -/
def GivesF (P : Program) (f : FuncId) (xs : List VV) (x : VV) (H : AH) : Prop := VCalls P f xs H (fun e H' => ∃ y, e = .ret y ∧ GhV H' y H x)
theorem GivesF.use {f : FuncId} {xs : List VV} {x : VV} (h : GivesF P f xs x H) (k : K (.ret x) H) : VCalls P f xs H K := fun S w args hs hx =>
  (h S w args hs hx).mono fun e w' hq => by
    cases e with
    | returned v =>
      obtain ⟨S', H', y, h1, h2, h3, z, h4, h5⟩ := hq
      cases h4
      obtain ⟨S'', g1, g2, g3⟩ := h5 S' w' v h2 h3
      exact ⟨S'', H, x, h1.trans g1, g2, g3, k⟩
    | panicked ch => obtain ⟨S', H', h1, h2, z, h4, h5⟩ := hq; cases h4
    | outgrown => exact hq
theorem GivesF.pure {f : FuncId} {xs : List VV} {x : VV} (h : ∀ H, GivesF P f xs x H) : PureF P f xs x := fun H => (h H).use ⟨rfl, rfl⟩
theorem GhV.nil (H : AH) : GhV H (.lit (.slice none 0 0)) H (.slice false 0 []) := GhV.own (e := 0) (k := 0) (OwnX.nil H 0 0)
theorem GhV.back {H1 H2 H3 : AH} {e : TypeId} {k n : Nat} {v : VV} {cs : List VV} (h : OwnX H1 H2 e k v n cs) (hs : SubH H3 H1) : GhV H2 v H3 (.slice false n cs) := (GhV.own h).trans (GhV.forget hs _)
theorem eq_nil {t e : TypeId} {ox : Operand} {ex : Bool} {n : Nat} {cs : List VV} (hu : P.underlying t = some (.slice e)) (h : ∀ b, (0 < n → b = false) → K (.ret (boolV b)) H) :
    vcBin P .eql t ox (.const (.slice none 0 0)) (.slice ex n cs) (.lit (.slice none 0 0)) H K := by
  unfold vcBin
  simp only [litCells]
  exact ⟨⟨e, hu⟩, .inr (.inl rfl), fun b hb => h b hb⟩
/-! ### Building -/
theorem append_own {t e : TypeId} {k b : Nat} {zs : List Value} {s x : VV} {n m : Nat} {cs news : List VV} (hel : elT P t = some (e, k, b)) (hz : zeroT P e = some zs) (hzk : zs.length = k) (hk : 0 < k) (ho : OwnX H0 H e k s n cs) (hs : srcV H k x = some (m, news))
    (hone : news.all VV.one = true) (hb : (n + m) * b ≤ 140737488355328) (h63 : n + m ≤ 9223372036854775807) (hK : ∀ v' H', OwnX H0 H' e k v' (n + m) (cs ++ news) → K (.ret v') H') : AppendA P t s x H K :=
  .inl ⟨e, k, b, zs, H0, n, cs, m, news, hel, hz, hzk, hk, ho, hs, hone, hb, h63, hK⟩
theorem append_clip {t e : TypeId} {k b : Nat} {zs : List Value} {x : VV} {n m : Nat} {cs news : List VV} (hel : elT P t = some (e, k, b)) (hz : zeroT P e = some zs) (hzk : zs.length = k) (hk : 0 < k) (hcl : cs.length = n * k) (hs : srcV H k x = some (m, news))
    (hone : news.all VV.one = true) (hb : (n + m) * b ≤ 140737488355328) (h63 : n + m ≤ 9223372036854775807) (h0 : m = 0 → K (.ret (.slice true n cs)) H) (hK : m ≠ 0 → ∀ v' H', OwnX H H' e k v' (n + m) (cs ++ news) → K (.ret v') H') : AppendA P t (.slice true n cs) x H K :=
  .inr (.inl ⟨e, k, b, zs, n, cs, m, news, hel, hz, hzk, hk, rfl, hcl, hs, hone, hb, h63, h0, hK⟩)
theorem OwnX.alloc {e : TypeId} {k n r : Nat} {v : VV} {cs : List VV} (h : OwnX H0 H e k v n cs) (hr : H r = none) (b : Blk) : OwnX (H0.set r b) (H.set r b) e k v n cs := by
  rcases h with ⟨rfl, rfl, rfl, rfl⟩ | ⟨g, c, sp, rfl, h0, rfl, h1, h2, h3, h4⟩
  · exact .inl ⟨rfl, rfl, rfl, rfl⟩
  · rw [AH.set_none] at hr
    refine .inr ⟨g, c, sp, rfl, ?_, AH.comm _ _ hr.1.1, h1, h2, h3, h4⟩
    rw [AH.get, if_neg hr.1.2]; exact h0
theorem OwnX.sub {e : TypeId} {k n : Nat} {v : VV} {cs : List VV} (h : OwnX H0 H e k v n cs) : SubH H0 H := by
  rcases h with ⟨rfl, rfl, rfl, rfl⟩ | ⟨g, c, sp, rfl, h0, rfl, h1, h2, h3, h4⟩
  · exact SubH.refl _
  · exact SubH.new h0
theorem OwnX.read {e : TypeId} {k n : Nat} {v : VV} {cs : List VV} (h : OwnX H0 H e k v n cs) : SlR H v n cs := by
  rcases h with ⟨rfl, rfl, rfl, rfl⟩ | ⟨g, c, sp, rfl, h0, rfl, h1, h2, h3, h4⟩
  · exact .inr (.inl ⟨rfl, rfl, rfl⟩)
  · exact .inr (.inr ⟨g, 0, c, e, cs, sp, rfl, AH.set_same _ _ _, by simp⟩)
/-- What was laid besides is forgotten. -/
theorem OwnX.shrink {H1 : AH} {e : TypeId} {k n : Nat} {v : VV} {cs : List VV} (h : OwnX H0 H e k v n cs) (hs : SubH H1 H0) : ∃ H', OwnX H1 H' e k v n cs ∧ SubH H' H := by
  rcases h with ⟨rfl, rfl, rfl, rfl⟩ | ⟨g, c, sp, rfl, h0, rfl, h1, h2, h3, h4⟩
  · exact ⟨H1, .inl ⟨rfl, rfl, rfl, rfl⟩, hs⟩
  · exact ⟨H1.set g (.cells e cs sp), .inr ⟨g, c, sp, rfl, hs.none h0, rfl, h1, h2, h3, h4⟩, hs.set _ _⟩
theorem SubH.del {H1 H2 : AH} (h : SubH H1 H2) {g : Nat} (hg : H1 g = Option.none) : SubH H1 (H2.del g) := fun r b hb => by
  rw [AH.del_ne _ (fun e => by rw [e, hg] at hb; cases hb)]; exact h r b hb
theorem GhV.row {H1 : AH} {g e : Nat} {n c : Nat} {cs : List VV} {sp : Nat} {z : VV} (hg : H g = some (.cells e cs sp)) (hc : n ≤ c) (hs : SubH H1 H) (hn : H1 g = none) : GhV H (.agg [.lit (.slice (some ⟨g, 0, none⟩) n c), z]) H1 (.agg [.slice false n cs, z]) :=
  GhV.agg (GhL.cons (GhV.slice hg hc) (GhL.cons (GhV.forget (hs.del hn) z) (GhL.nil _)))
theorem ret_cell {t : Nat → VV} {a : Nat} {ty e : TypeId} {n r o sp : Nat} {ag : Bool} {cs : List VV} {x : VV} (hl : ldT P ty = some (n, ag)) (ha : t a = .lit (.pointer (some ⟨r, o, none⟩))) (hr : H r = some (.cells e cs sp)) (hx : ldV n ag (cs.drop o) = some x) (h : K (.ret x) H) : retPost P [.cell a ty] K .ret ⟨t, []⟩ H :=
  ⟨rfl, x, H, x, by simp only [resV, resAll, resOne, hl, ha, hr, hx, Option.bind_some, Option.map_some, tupV], .refl _ _, h⟩
end
end Go.PV
end
section
/- A ghost in a block's cells. -/
set_option linter.unusedVariables false
namespace Go.PV
open Go
theorem GhL.append {H H' H'' : AH} : ∀ {xs xs' ys ys' : List VV}, xs.length = xs'.length → GhL H xs H' xs' → GhL H' ys H'' ys' → GhL H (xs ++ ys) H'' (xs' ++ ys') := by
  intro xs xs' ys ys' hl h k S w us hs hx
  have split : ∀ (xs : List VV) {S : Nat → Prop} {ys : List VV} {us : List Value}, RvL S w (xs ++ ys) us → ∃ u1 u2, us = u1 ++ u2 ∧ RvL S w xs u1 ∧ RvL S w ys u2 := by
    intro xs
    induction xs with
    | nil => intro S ys us h; exact ⟨[], us, rfl, rfl, h⟩
    | cons x xs ih =>
      intro S ys us h
      obtain ⟨u, us', rfl, h1, h2⟩ := h
      obtain ⟨u1, u2, rfl, h3, h4⟩ := ih h2
      exact ⟨u :: u1, u2, rfl, ⟨u, u1, rfl, h1, h3⟩, h4⟩
  have join : ∀ (xs : List VV) {S : Nat → Prop} {ys : List VV} {u1 u2 : List Value}, RvL S w xs u1 → RvL S w ys u2 → RvL S w (xs ++ ys) (u1 ++ u2) := by
    intro xs
    induction xs with
    | nil => intro S ys u1 u2 h k; obtain rfl : u1 = [] := h; exact k
    | cons x xs ih =>
      intro S ys u1 u2 h k
      obtain ⟨u, us', rfl, h1, h2⟩ := h
      exact ⟨u, us' ++ u2, rfl, h1, ih h2 k⟩
  obtain ⟨u1, u2, rfl, h1, h2⟩ := split xs hx
  obtain ⟨S1, a1, a2, a3⟩ := h S w u1 hs h1
  obtain ⟨S2, b1, b2, b3⟩ := k S1 w u2 a2 (h2.step hs a1)
  exact ⟨S2, a1.trans b1, b2, join xs' (a3.step a2 b1) b3⟩
/-- A block's cells may be taken for others that stand for the same. -/
theorem Ghost.cell {N : Nat} {A : AF} {H H' : AH} {r : Nat} {e : TypeId} {cs cs' : List VV} {sp : Nat} (hr : H r = some (.cells e cs sp)) (h : GhL (H.del r) cs H' cs') : Ghost N A H A (H'.set r (.cells e cs' sp)) := fun S w a hs hf => by
  have hsub : SubH (H.del r) H := fun i b hb => by
    by_cases e : i = r
    · subst e; rw [AH.del_same] at hb; cases hb
    · rw [AH.del_ne _ e] at hb; exact hb
  obtain ⟨s1, s2⟩ := hs.sub hsub
  obtain ⟨vs, v1, v2, v3⟩ := hs.blk r _ hr
  obtain ⟨S', a1, a2, a3⟩ := h S w _ s1 v3
  have hlt : r < w.heap.size := by
    refine Nat.lt_of_not_ge fun hn => ?_
    rw [Array.getElem?_eq_none hn] at v1; cases v1
  have hnS : ¬ S' r := fun hS => by
    rcases a1.snew r hS with h1 | h1 | h1
    · exact hs.dis r _ hr h1
    · exact h1 (AH.del_same _ _)
    · omega
  have l1 : (vs.toList.take cs.length).length = cs.length := by
    have e : vs.toList.length = vs.size := Array.length_toList
    rw [List.length_take]; omega
  have hlen : cs'.length = cs.length := by rw [← a3.length]; exact l1
  refine ⟨S', ?_, ⟨fun i b hb => ?_, fun i b hb => ?_, a2.lt⟩, ?_⟩
  · have k := s2.trans a1
    refine ⟨k.os, k.tape, k.output, k.size, k.sub, fun _ _ _ => rfl, fun i hi => ?_, fun i hi => ?_⟩
    · by_cases e : i = r
      · subst e; exact .inl (by rw [hr]; simp)
      · rw [AH.get, if_neg e] at hi
        exact k.own i hi
    · exact k.snew i hi
  · by_cases e : i = r
    · subst e
      rw [AH.set_same] at hb
      cases hb
      exact ⟨vs, v1, by rw [hlen]; exact v2, by rw [hlen]; exact a3⟩
    · rw [AH.get, if_neg e] at hb
      exact a2.blk i b hb
  · by_cases e : i = r
    · subst e; exact hnS
    · rw [AH.get, if_neg e] at hb
      exact a2.dis i b hb
  · exact ⟨hf.1, hf.2.1, fun j => ((hf.2.2 j).step hs s2).step s1 a1⟩
theorem acx_loopA {cx : Cx} {Q : APost} {A : AF} {H : AH} {a : ACode} (I : AF → AH → Prop) (μ : AF → AH → Nat) (h0 : I A H)
    (round : ∀ A H, I A H → ACx cx a (thenA (fun A' H' => I A' H' ∧ μ A' H' < μ A H) Q) A H) : ACx cx (.loop a) Q A H := by
  intro c hc
  cases c with
  | loop c =>
    simp only [compile, ACode.loop.injEq] at hc
    exact ac_loop I μ h0 fun A H hI => round A H hI c hc
  | region id ops draw =>
    exfalso
    unfold compile compileD at hc
    split at hc
    · dsimp only at hc
      split at hc
      · split at hc <;> cases hc
      · cases hc
    · split at hc <;> cases hc
  | seq x y => simp only [compile] at hc; split at hc <;> cases hc
  | _ => simp [compile] at hc
end Go.PV
end
