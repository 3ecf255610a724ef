/- Proved: EvaluateRuns, for every input of a bulk within the bound that its statement names. -/
import Derived.Test.YtglpmlbbaedbiaaGreatRuns10
import Derived.Test.YtglpmlbbaedbiaaGreatRuns3
import Derived.KernelRfl
import Derived.Test.YtglpmlbbaedbiaaGreatRuns5
set_option linter.unusedVariables false
set_option linter.unusedSimpArgs false
set_option linter.defProp false
section
open Bool renaming and_eq_true→ZqA
open List renaming map_cons→Zp3,map_nil→Zqa,all_cons→Zqn
open Nat renaming beq→ZpX,eq_of_beq_eq_true→Zp0,ble→Zqc,le_of_ble_eq_true→Zqd
namespace Go.PV
structure Cfg where
 P:Program
 ft:FuncId→Option (Nat × List ResultVar × ACode)
 mt:TypeId→Option Value
 im:TypeId→String→Option FuncId
 mm:List (FuncId × List EV × EV)
structure CfgOk (C:Cfg):Prop where
 ft:∀ f N rs a,C.ft f=some (N,rs,a)→FnD C.P f N rs a∧ZF C.P f=true
 mt:∀ t z,C.mt t=some z→MapT C.P t z
 im:∀ t m g,C.im t m=some g→∀ z w,(method (C.P.types.size+Made.depth) t z m).run C.P w=.ok (g,z) w
 mixed:C.P.follows .mixedOrders=true
 mm:∀ g ys v,(g,ys,v)∈C.mm→ZF C.P g=true∧XC ys=true∧v.closedB=true∧PureF C.P g (vvL ys) v.vv
abbrev HN:=EV × Tr EB × Nat
abbrev CallF:=EV→List EV→Tr EB→Nat→Option HN
def Zas (C:Cfg) (call:CallF):Prop:=∀ f xs h nx v h' nx',call f xs h nx=some (v,h',nx')→∀ σ H f' xs' ro K,HR C.P σ h H→RV σ f f'→RVL σ xs xs'→EK C.P σ v h' K→WJ C.P ro f' xs' H K
def w2 (x:Option HE) (nx:Nat):Option HN:=match x with | some (v,h)=>some (v,h,nx) | none=>none
theorem Zcb {x:Option HE} {nx nx':Nat} {v:EV} {h:Tr EB} (e:w2 x nx=some (v,h,nx')):x=some (v,h):=by
 unfold w2 at e;split at e
 ·simp only [Option.some.injEq,Prod.mk.injEq] at e;obtain ⟨rfl,rfl,_⟩:=e;rfl
 ·cases e
def effE (C:Cfg) (call:CallF) (nb:Nat) (ev:Operand→EV) (op:Op) (h:Tr EB) (nx:Nat):Option HN :=
 match op with
 | .alloc e=>w2 (ZnD C.P nb e h) nx
 | .box e x=>w2 (boxE nb e (ev x) h) nx
 | .store t a v=>w2 (ZnE C.P t (ev a) (ev v) h) nx
 | .makeMap t none=>w2 (Ziz nb t h) nx
 | .makeSlice t l c=>w2 (Zfe C.P nb t (ev l) (ev c) h) nx
 | .lookup t m k ok=>(match ZkD C.P C.mt t (ev m) (ev k) ok h with | some v=>some (v,h,nx) | none=>none)
 | .mapUpdate t m k v=>w2 (Zh6 C.P C.mt t (ev m) (ev k) (ev v) h) nx
 | .insert t m k v=>w2 (Zh6 C.P C.mt t (ev m) (ev k) (ev v) h) nx
 | .call { callee:=.builtin .append,args,argTypes }=>(match argTypes.toList,args.toList with | [t,t'],[s,x]=>cond (ZpX t t') (w2 (ZkE C.P nb t (ev s) (ev x) h) nx) none | _,_=>none)
 | .call { callee:=.value f,args,.. }=>call (ev f) (args.toList.map ev) h nx
 | .call { callee:=.invoke x m,args,.. }=>(match ev x with | .iface t y=>(match C.im t m with | some g=>call (.lit (.func (.func g) #[] #[])) (y::args.toList.map ev) h nx | none=>none) | _=>none)
 | _=>none
def opE (C:Cfg) (call:CallF) (nb:Nat) (ev:Operand→EV) (op:Op) (h:Tr EB) (nx:Nat):Option HN :=
 match pureE C.P ev h.get op with
 | some v=>some (v,h,nx)
 | none=>effE C call nb ev op h nx
section
variable {C:Cfg} {call:CallF} {cx:Cx} {A:AF} {σ:Sg} {h h':Tr EB} {H:AH} {K:VE→AH→Prop}
theorem Zpi (hC:CfgOk C) (hcall:Zas C call) (hP:cx.P=C.P) {nb nx nx':Nat} {ev:Operand→EV} {op:Op} {v:EV} (hev:∀ o,RV σ (ev o) (A.eval o)) (hr:HR C.P σ h H) (he:opE C call nb ev op h nx=some (v,h',nx'))
 (hK:EK C.P σ v h' K):vcOp cx op A H K:=by
 obtain ⟨P',N,ro⟩:=cx;obtain rfl:P'=C.P:=hP;unfold opE at he;split at he
 ·rename_i w hw;simp only [Option.some.injEq,Prod.mk.injEq] at he;obtain ⟨rfl,rfl,_⟩:=he;exact Zdt (cx:=⟨C.P,N,ro⟩) hev (fun k b hb=>hr.blk k b hb) hw (fun z hz=>hK _ _ _ (Ext.refl σ) hr hz)
 ·rename_i hp0;clear hp0;unfold effE at he;split at he
  ·exact Zkh hr (Zcb he) hK
  ·exact ZmS hr (hev _) (Zcb he) hK
  ·exact Zki hr (hev _) (hev _) (Zcb he) hK
  ·exact Zhn hr (Zcb he) hK
  ·exact Zgm hr (hev _) (hev _) (Zcb he) hK
  ·split at he
   ·rename_i w hw;simp only [Option.some.injEq,Prod.mk.injEq] at he;obtain ⟨rfl,rfl,_⟩:=he;exact Zi7 hC.mt hr (hev _) (hev _) hw (fun z hz=>hK _ _ _ (Ext.refl σ) hr hz)
   ·cases he
  ·exact ZeS hC.mt hr (hev _) (hev _) (hev _) (Zcb he) hK
  ·exact ZeS hC.mt hr (hev _) (hev _) (hev _) (Zcb he) hK
  ·rename_i args ats;split at he
   ·rename_i t t' s x h1 h2;have hq:=condS he;clear he;obtain ⟨hc,he⟩:=hq;show YM C.P .append ats.toList (args.toList.map A.eval) H K;rw [h1,h2];simp only [Zp3,Zqa];rw [Zcu,if_pos (Zp0 hc)];exact Zi8 hr (hev _) (hev _) (Zcb he) hK
   ·cases he
  ·exact hcall _ _ _ _ _ _ _ he σ H _ _ ro K hr (hev _) (RVL.map hev _) hK
  ·rename_i x m args ats;split at he
   ·rename_i t y hx;split at he
    ·rename_i g hg;have hxr:=hev x;rw [hx] at hxr;obtain ⟨y',hxe,hy⟩:=hxr;have hcl:=hcall _ _ _ _ _ _ _ he σ H (.lit (.func (.func g) #[] #[])) (y'::args.toList.map A.eval) ro K hr rfl ⟨y',_,rfl,hy,RVL.map hev _⟩ hK;rw [XF] at hcl;show Zgb C.P ro (A.eval x) m (args.toList.map A.eval) H K;refine ⟨g,y',hcl.1,hcl.2,fun S w u hu=>?_⟩;rw [hxe] at hu;obtain ⟨v,rfl,hv⟩:=hu;exact ⟨v,hv,t,v,rfl,hC.im t m g hg v w⟩
    ·cases he
   ·cases he
  ·cases he
end
inductive ED where
 | mark (k:Nat)
 | fn (f:FuncId) (args cap:List EV)
structure ES where
 t:Tr EV
 d:List ED
 h:Tr EB
 nx:Nat
def RD (σ:Sg):ED→Deferred→Prop
 | .mark k,d=>∃ p,σ k=some p∧d=JM p.r
 | .fn f args cap,d=>∃ asg cs:List Value,d={ target:=.fn (.func f) cs.toArray,args:=asg.toArray }∧RVL σ args (asg.map .lit)∧RVL σ cap (cs.map .lit)
def RDL (σ:Sg):List ED→List Deferred→Prop
 | [],ds=>ds=[]
 | e::es,ds=>∃ d ds',ds=d::ds'∧RD σ e d∧RDL σ es ds'
structure RA (P:Program) (σ:Sg) (s:ES) (A:AF) (H:AH):Prop where
 t:∀ i,RVo σ (s.t.get i) (A.t i)
 d:RDL σ s.d A.d
 h:HR P σ s.h H
theorem RD.mono {σ σ':Sg} (h:Ext σ σ') {e:ED} {d:Deferred} (hd:RD σ e d):RD σ' e d:=by
 cases e with
 | mark k=>obtain ⟨p,hp,e⟩:=hd; exact ⟨p,h _ _ hp,e⟩
 | fn f args cap=>obtain ⟨asg,cs,e,h1,h2⟩:=hd; exact ⟨asg,cs,e,RVL.mono h _ _ h1,RVL.mono h _ _ h2⟩
theorem RDL.mono {σ σ':Sg} (h:Ext σ σ'):∀ {es:List ED} {ds:List Deferred},RDL σ es ds→RDL σ' es ds
 | [],ds,hd=>hd
 | e::es,ds,⟨d,ds',e1,h1,h2⟩=>⟨d,ds',e1,h1.mono h,RDL.mono h h2⟩
def evO (t:Tr EV):Operand→EV
 | .tmp i=>(match t.get i with | some v=>v | none=>.lit undef)
 | .const v=>.lit v
 | .global g=>.lit (.pointer (some ⟨g,0,none⟩))
 | .func f=>.lit (.func (.func f) #[] #[])
theorem Zax {σ:Sg} {t:Tr EV} {A:AF} (h:∀ i,RVo σ (t.get i) (A.t i)) (o:Operand):RV σ (evO t o) (A.eval o):=by
 cases o with
 | tmp i =>
   have:=h i
   simp only [evO,AF.eval];cases e:t.get i with
   | none=>rw [e] at this; exact this
   | some v=>rw [e] at this; exact this
 | const v=>rfl
 | global g=>rfl
 | func f=>rfl
def putE (s:ES) (dst:Option Tmp) (v:EV):Option ES :=
 match dst with
 | none=>some s
 | some d=>(match Tr.set 20 s.t d v with | some t'=>some { s with t:=t' } | none=>none)
theorem Zbt {P:Program} {σ:Sg} {s s':ES} {A:AF} {H:AH} {dst:Option Tmp} {v:EV} {x:VV} (hs:RA P σ s A H) (hx:RV σ v x) (he:putE s dst v=some s'):RA P σ s' (A.put dst x) H:=by
 cases dst with
 | none=>simp only [putE,Option.some.injEq] at he; subst he; exact hs
 | some d =>
   simp only [putE] at he;split at he
   ·rename_i t' ht;simp only [Option.some.injEq] at he;subst he;refine ⟨fun i=>?_,hs.d,hs.h⟩;simp only [AF.put,upd,Tr.get_set _ _ _ _ _ ht];split
    ·exact hx
    ·exact hs.t i
   ·cases he
def dOkB (N:Nat):Option Tmp→Bool
 | none=>true
 | some d=>Zqc (d+1) N
theorem Zcm {N:Nat} {d:Option Tmp} (h:dOkB N d=true):dOk N d:=by
 cases d with
 | none=>trivial
 | some d=>exact Zqd h
def Zhi:EV→Bool
 | .lit _=>true
 | .ptr _ _=>true
 | .sl _ _ _ _ _=>true
 | .es _ _ _ _ _=>true
 | .map _=>true
 | .yield _=>true
 | _=>false
theorem Zlr {σ:Sg} {v:EV} {x:VV} (h:Zhi v=true) (hx:RV σ v x):∃ u,x=.lit u:=by
 cases v with
 | lit u=>exact ⟨u,hx⟩
 | ptr k o=>obtain ⟨p,_,e⟩:=hx; exact ⟨_,e⟩
 | sl k o n c d=>obtain ⟨p,_,_,e⟩:=hx; exact ⟨_,e⟩
 | es k o d lo s=>obtain ⟨p,_,e⟩:=hx; exact ⟨_,e⟩
 | map k=>obtain ⟨p,_,e⟩:=hx; exact ⟨_,e⟩
 | yield k=>obtain ⟨p,_,e⟩:=hx; exact ⟨_,e⟩
 | _=>cases h
theorem ZaO {σ:Sg}:∀ {vs:List EV} {xs:List VV},vs.all Zhi=true→RVL σ vs xs→∃ us:List Value,xs=us.map .lit∧Yw (.agg xs)=some us
 | [],xs,_,hl=>by simp only [RVL] at hl; subst hl; exact ⟨[],rfl,rfl⟩
 | v::vs,xs,h,⟨y,ys,e,h1,h2⟩=>by
   simp only [Zqn,ZqA] at h;obtain ⟨u,rfl⟩:=Zlr h.1 h1;obtain ⟨us,rfl,h3⟩:=ZaO h.2 h2;subst e;refine ⟨u::us,rfl,?_⟩;simp only [Yw,List.mapM_cons] at h3 ⊢;simp [h3]
def deferE (f:EV) (args:List EV):Option ED :=
 match f with
 | .func g first cap=>cond (cond (first.all Zhi) (cond (cap.all Zhi) (args.all Zhi) false) false) (some (.fn g (first++args) cap)) none
 | .lit (.func (.func g) a b)=>cond (args.all Zhi) (some (.fn g (a.toList.map .lit++args) (b.toList.map .lit))) none
 | _=>none
def doE (C:Cfg) (call:CallF) (N rb:Nat) (out:Bool) (dst:Option Tmp) (op:Op) (s:ES):Option ES :=
 cond (dOkB N dst) (match op with
  | .defer c=>cond out (match c.callee with
    | .value f=>(match deferE (evO s.t f) (c.args.toList.map (evO s.t)) with | some e=>putE { s with d:=e::s.d } dst (.lit undef) | none=>none)
    | _=>none) none
  | op=>(match opE C call (match dst with | some d=>rb+d | none=>rb+N) (evO s.t) op s.h s.nx with
    | some (v,h',nx')=>putE { s with h:=h',nx:=nx' } dst v
    | none=>none)) none
def Zc8 (C:Cfg) (op:Op) (ev:Operand→EV):Bool :=
 match op with
 | .call { callee:=.value f,.. }=>(match ev f with
   | .lit (.func (.func g) _ _)=>(C.ft g).isSome
   | .func g _ _=>(C.ft g).isSome
   | .lit (.tuple _)=>true
   | _=>false)
 | .call { callee:=.invoke x _,.. }=>(match ev x with | .lit (.tuple _)=>true | _=>false)
 | _=>true
def stepE (C:Cfg) (call:CallF) (N rb:Nat) (out un:Bool) (o:GOp) (s:ES):Option ES :=
 match o.g with
 | none=>doE C call N rb out o.dst o.op s
 | some (d,want)=>(match s.t.get d with
   | some (.lit (.bool b))=>cond (cond b want (!want)) (doE C call N rb out o.dst o.op s) (cond (cond (dOkB N o.dst) (Zc8 C o.op (evO s.t)) false) (putE s o.dst (.lit undef)) none)
   | some (.lit (.tuple _))=>cond un (cond (cond (dOkB N o.dst) (Zc8 C o.op (evO s.t)) false) (putE s o.dst (.lit undef)) none) none
   | none=>cond un (cond (cond (dOkB N o.dst) (Zc8 C o.op (evO s.t)) false) (putE s o.dst (.lit undef)) none) none
   | _=>none)
def Zde (C:Cfg) (call:CallF) (N rb:Nat) (out un:Bool):List GOp→ES→Option ES
 | [],s=>some s
 | o::l,s=>(match stepE C call N rb out un o s with | some s'=>Zde C call N rb out un l s' | none=>none)
section
variable {C:Cfg} {call:CallF} {N rb:Nat} {out:Bool} {ro:Option Nat} {A:AF} {σ:Sg} {s s':ES} {H:AH} {k:AF→AH→Prop} {Q:APost}
theorem RA.with_h (hs:RA C.P σ s A H) {σ':Sg} (hx:Ext σ σ') {h':Tr EB} {H':AH} (hr:HR C.P σ' h' H') (nx':Nat):RA C.P σ' { s with h:=h',nx:=nx' } A H':=⟨fun i=>(hs.t i).mono hx,hs.d.mono hx,hr⟩
theorem Zeh (hC:CfgOk C) (hcall:Zas C call) (hout:out=true→ro=none) {dst:Option Tmp} {op:Op} (hs:RA C.P σ s A H) (he:doE C call N rb out dst op s=some s')
 (hk:∀ σ' A' H',Ext σ σ'→RA C.P σ' s' A' H'→k A' H'):vcDo ⟨C.P,N,ro⟩ ⟨dst,op,none⟩ k Q A H:=by
 unfold doE at he;have hq:=condS he;clear he;obtain ⟨hd,he⟩:=hq;refine ⟨Zcm hd,?_⟩;split at he
 ·rename_i c;have hq:=condS he;clear he;obtain ⟨ho,he⟩:=hq;refine ⟨hout ho,?_⟩;split at he
  ·rename_i f hf;rw [hf];dsimp only;split at he
   ·rename_i e hde;have hev:=Zax (σ:=σ) (t:=s.t) (A:=A) hs.t;have hfv:=hev f;have hargs:=RVL.map (σ:=σ) hev c.args.toList;unfold deferE at hde;split at hde
    ·rename_i g first cap hfe;rw [hfe] at hfv;obtain ⟨asg,bs,e1,h1,h2⟩:=hfv;have hq:=condS hde;clear hde;obtain ⟨hc,hde⟩:=hq;obtain ⟨hc1,hc⟩:=cond3 hc;obtain ⟨hc2,hc3⟩:=cond3 hc;obtain ⟨us1,rfl,q1⟩:=ZaO hc1 h1;obtain ⟨us2,rfl,q2⟩:=ZaO hc2 h2;obtain ⟨us3,e3,q3⟩:=ZaO hc3 hargs;simp only [Option.some.injEq] at hde;subst hde;have hval:valOf (A.eval f)=some (.func (.func g) us1.toArray us2.toArray):=by rw [e1]; simp [valOf,q1,q2]
     rw [hval,q3];dsimp only
     have hs2:RA C.P σ { s with d:=.fn g (first++c.args.toList.map (evO s.t)) cap::s.d } { A with d:={ target:=.fn (.func g) us2.toArray,args:=us1.toArray++us3.toArray }::A.d } H :=
      ⟨hs.t,⟨_,_,rfl,⟨us1++us3,us2,by simp,by rw [List.map_append,← e3]; exact h1.append hargs,h2⟩,hs.d⟩,hs.h⟩
     exact hk σ _ _ (Ext.refl σ) (Zbt (x:=ZD) (v:=.lit undef) hs2 rfl he)
    ·rename_i g a b hfe;rw [hfe] at hfv;have e1:A.eval f=.lit (.func (.func g) a b):=hfv;have hq:=condS hde;clear hde;obtain ⟨hc3,hde⟩:=hq;obtain ⟨us3,e3,q3⟩:=ZaO hc3 hargs;simp only [Option.some.injEq] at hde;subst hde;rw [e1,q3];dsimp only [valOf]
     have hs2:RA C.P σ { s with d:=.fn g (a.toList.map .lit++c.args.toList.map (evO s.t)) (b.toList.map .lit)::s.d } { A with d:={ target:=.fn (.func g) b,args:=a++us3.toArray }::A.d } H :=
      ⟨hs.t,⟨_,_,rfl,⟨a.toList++us3,b.toList,by simp,by rw [List.map_append,← e3]; exact (RVL.lits _).append hargs,RVL.lits _⟩,hs.d⟩,hs.h⟩
     exact hk σ _ _ (Ext.refl σ) (Zbt (x:=ZD) (v:=.lit undef) hs2 rfl he)
    ·cases hde
   ·cases he
  ·cases he
 ·rename_i op' hnd;split at he
  ·rename_i v h' nx' hop
   have:vcOp ⟨C.P,N,ro⟩ op A H (vcK k Q dst A):=Zpi hC hcall rfl (Zax hs.t) hs.h hop fun σ' H' x hx hr hv=>hk σ' _ _ hx (Zbt (hs.with_h hx hr nx') hv he)
   cases op with
   | defer c=>exact absurd rfl (hnd c)
   | _=>exact this
  ·cases he
theorem Zfy (hC:CfgOk C) {op:Op} (hev:∀ o,RV σ (evO s.t o) (A.eval o)) (h:Zc8 C op (evO s.t)=true):ZN C.P op A:=by
 unfold Zc8 at h;unfold ZN;split at h
 ·rename_i f args ats;dsimp only;have hf:=hev f
  have hft:∀ g,(C.ft g).isSome=true→ZF C.P g=true:=fun g hg=>by
   obtain ⟨⟨N,rs,a⟩,e⟩:=Option.isSome_iff_exists.1 hg;exact (hC.ft g N rs a e).2
  split at h
  ·rename_i g a b e;rw [e] at hf;rw [show A.eval f=_ from hf];exact hft g h
  ·rename_i g a b e;rw [e] at hf;obtain ⟨asg,bs,e1,_⟩:=hf;rw [e1];exact hft g h
  ·rename_i vs e;rw [e] at hf;rw [show A.eval f=_ from hf];trivial
  ·cases h
 ·rename_i x m args ats;dsimp only;have hf:=hev x;split at h
  ·rename_i vs e;rw [e] at hf;rw [show A.eval x=_ from hf];trivial
  ·cases h
 ·rename_i n1 n2;split
  ·rename_i f args ats; exact absurd rfl (n1 f args ats)
  ·rename_i x m args ats; exact absurd rfl (n2 x m args ats)
  ·trivial
theorem Zc0 (hC:CfgOk C) {dst:Option Tmp} {op:Op} (hs:RA C.P σ s A H) (he:cond (cond (dOkB N dst) (Zc8 C op (evO s.t)) false) (putE s dst (.lit undef)) none=some s')
 (hk:∀ σ' A' H',Ext σ σ'→RA C.P σ' s' A' H'→k A' H'):dOk N dst∧ZN C.P op A∧k (A.put dst ZD) H:=by
 obtain ⟨hc,he'⟩:=condS he;obtain ⟨hc1,hc2⟩:=cond3 hc;exact ⟨Zcm hc1,Zfy hC (Zax hs.t) hc2,hk σ _ _ (Ext.refl σ) (Zbt (x:=ZD) (v:=.lit undef) hs rfl he')⟩
theorem ZkF {b want:Bool} (h:(cond b want (!want))=true):b=want:=by cases b<;>cases want<;>simp_all
theorem ZkG {b want:Bool} (h:(cond b want (!want))=false):b ≠ want:=by cases b<;>cases want<;>simp_all
theorem Zkj (hC:CfgOk C) (hcall:Zas C call) (hout:out=true→ro=none) {o:GOp} {un:Bool} (hs:RA C.P σ s A H) (he:stepE C call N rb out un o s=some s')
 (hk:∀ σ' A' H',Ext σ σ'→RA C.P σ' s' A' H'→k A' H'):vcG2 ⟨C.P,N,ro⟩ o k Q A H:=by
 obtain ⟨dst,op,g⟩:=o;unfold stepE at he;unfold vcG2;cases g with
 | none=>exact Zeh hC hcall hout hs he hk
 | some g =>
   obtain ⟨d,want⟩:=g;have ht:=hs.t d;dsimp only at he ⊢;split at he
   ·rename_i b e;rw [e] at ht;rw [show A.t d=.lit (.bool b) from ht];unfold Zi0;dsimp only;cases hb:cond b want (!want) with
    | true =>
      simp only [hb,cond_true] at he;rw [if_pos (ZkF hb)];exact Zeh hC hcall hout hs he hk
    | false =>
      simp only [hb,cond_false] at he;rw [if_neg (ZkG hb)];exact Zc0 hC hs he hk
   ·rename_i vs e;rw [e] at ht;rw [show A.t d=.lit (.tuple vs) from ht];exact Zc0 hC hs (condS he).2 hk
   ·rename_i e;rw [e] at ht;rw [show A.t d=.lit (.tuple #[]) from ht];exact Zc0 hC hs (condS he).2 hk
   ·cases he
theorem Zao (hC:CfgOk C) (hcall:Zas C call) (hout:out=true→ro=none) {o:GOp} (hs:RA C.P σ s A H) (he:stepE C call N rb out false o s=some s')
 (hk:∀ σ' A' H',Ext σ σ'→RA C.P σ' s' A' H'→k A' H'):vcG ⟨C.P,N,ro⟩ o k Q A H:=by
 obtain ⟨dst,op,g⟩:=o;unfold stepE at he;unfold vcG;cases g with
 | none=>exact Zeh hC hcall hout hs he hk
 | some g =>
   obtain ⟨d,want⟩:=g;have ht:=hs.t d;dsimp only at he ⊢;split at he
   ·rename_i b e;rw [e] at ht;rw [show A.t d=.lit (.bool b) from ht];dsimp only;cases hb:cond b want (!want) with
    | true =>
      simp only [hb,cond_true] at he;rw [if_pos (ZkF hb)];exact Zeh hC hcall hout hs he hk
    | false =>
      simp only [hb,cond_false] at he;rw [if_neg (ZkG hb)];exact Zc0 hC hs he hk
   ·cases (condS he).1
   ·cases (condS he).1
   ·cases he
theorem ZeU (hC:CfgOk C) (hcall:Zas C call) (hout:out=true→ro=none) {un:Bool}:∀ (l:List GOp) (σ:Sg) (s s':ES) (A:AF) (H:AH),RA C.P σ s A H→Zde C call N rb out un l s=some s' →
 (∀ σ' A' H',Ext σ σ'→RA C.P σ' s' A' H'→Q .normal A' H')→vcL2 ⟨C.P,N,ro⟩ l Q A H
 | [],σ,s,s',A,H,hs,he,hk=>by
   simp only [Zde,Option.some.injEq] at he;subst he;exact hk σ A H (Ext.refl σ) hs
 | o::l,σ,s,s',A,H,hs,he,hk=>by
   simp only [Zde] at he;split at he
   ·rename_i s1 h1;exact Zkj hC hcall hout hs h1 fun σ1 A1 H1 hx hs1=>ZeU hC hcall hout l σ1 s1 s' A1 H1 hs1 he fun σ' A' H' hx'=>hk σ' A' H' (hx.trans hx')
   ·cases he
theorem ZeV (hC:CfgOk C) (hcall:Zas C call) (hout:out=true→ro=none):∀ (l:List GOp) (σ:Sg) (s s':ES) (A:AF) (H:AH),RA C.P σ s A H→Zde C call N rb out false l s=some s' →
 (∀ σ' A' H',Ext σ σ'→RA C.P σ' s' A' H'→Q .normal A' H')→vcL ⟨C.P,N,ro⟩ l Q A H
 | [],σ,s,s',A,H,hs,he,hk=>by
   simp only [Zde,Option.some.injEq] at he;subst he;exact hk σ A H (Ext.refl σ) hs
 | o::l,σ,s,s',A,H,hs,he,hk=>by
   simp only [Zde] at he;split at he
   ·rename_i s1 h1;exact Zao hC hcall hout hs h1 fun σ1 A1 H1 hx hs1=>ZeV hC hcall hout l σ1 s1 s' A1 H1 hs1 he fun σ' A' H' hx'=>hk σ' A' H' (hx.trans hx')
   ·cases he
end
end Go.PV
end
section
open Nat renaming beq→ZpX,eq_of_beq_eq_true→Zp0
namespace Go.PV
def beqV:Value→Value→Bool
 | .bool a,.bool b=>cond a b (!b)
 | .int k a,.int k' b=>cond (decide (k=k')) (decide (a=b)) false
 | .string a,.string b=>beqU a.data.toList b.data.toList
 | .pointer none,.pointer none=>true
 | .slice none 0 0,.slice none 0 0=>true
 | .map none,.map none=>true
 | .nilFunc,.nilFunc=>true
 | .nilIface,.nilIface=>true
 | .func (.func f) a b,.func (.func g) c d=>cond (ZpX f g) (match a.toList,b.toList,c.toList,d.toList with | [],[],[],[]=>true | _,_,_,_=>false) false
 | .tuple a,.tuple b=>(match a.toList,b.toList with | [],[]=>true | _,_=>false)
 | .agg a,.agg b=>cond (Zi5 a.toList) (beqKL a.toList b.toList) false
 | _,_=>false
theorem Zh7 {a b:Value} (h:beqV a b=true):a=b:=by
 unfold beqV at h;split at h
 ·rename_i p q; cases p<;>cases q<;>simp_all
 ·obtain ⟨h1,h2⟩:=cond3 h;rw [of_decide_eq_true h1,of_decide_eq_true h2]
 ·rename_i s s'
  have:=(Zf6 _ _).1 h
  cases s; cases s';simp only [Value.string.injEq,ByteArray.mk.injEq];exact Array.toList_inj.1 this
 ·rfl
 ·rfl
 ·rfl
 ·rfl
 ·rfl
 ·obtain ⟨h1,h2⟩:=cond3 h;split at h2
  ·rename_i e1 e2 e3 e4;rw [Zp0 h1,Array.toList_inj.1 (e1.trans e3.symm),Array.toList_inj.1 (e2.trans e4.symm)]
  ·cases h2
 ·split at h
  ·rename_i e1 e2;rw [Array.toList_inj.1 (e1.trans e2.symm)]
  ·cases h
 ·obtain ⟨h1,h2⟩:=cond3 h;rw [Array.toList_inj.1 ((ZgC h1).1 h2)]
 ·cases h
def beqON:Option Nat→Option Nat→Bool
 | none,none=>true
 | some a,some b=>ZpX a b
 | _,_=>false
theorem Zls {a b:Option Nat} (h:beqON a b=true):a=b:=by
 cases a<;>cases b<;>simp only [beqON] at h<;>first | rfl | cases h | (rw [Zp0 h])
mutual
def beqEV:EV→EV→Bool
 | .lit v,.lit u=>beqV v u
 | .ptr k o,.ptr k' o'=>cond (ZpX k k') (ZpX o o') false
 | .sl k o n c d,.sl k' o' n' c' d'=>cond (ZpX k k') (cond (ZpX o o') (cond (ZpX n n') (cond (beqON c c') (ZpX d d') false) false) false) false
 | .es k o d lo s,.es k' o' d' lo' s'=>cond (ZpX k k') (cond (ZpX o o') (cond (ZpX d d') (cond (ZpX lo lo') (ZpX s s') false) false) false) false
 | .map k,.map k'=>ZpX k k'
 | .isl ex n cs,.isl ex' n' cs'=>cond (cond ex ex' (!ex')) (cond (ZpX n n') (beqEL cs cs') false) false
 | .iptr cs,.iptr cs'=>beqEL cs cs'
 | .agg cs,.agg cs'=>beqEL cs cs'
 | .tuple cs,.tuple cs'=>beqEL cs cs'
 | .func f a b,.func f' a' b'=>cond (ZpX f f') (cond (beqEL a a') (beqEL b b') false) false
 | .yield k,.yield k'=>ZpX k k'
 | .iface t v,.iface t' v'=>cond (ZpX t t') (beqEV v v') false
 | _,_=>false
def beqEL:List EV→List EV→Bool
 | [],[]=>true
 | a::asg,b::bs=>cond (beqEV a b) (beqEL asg bs) false
 | _,_=>false
end
mutual
theorem ZaP:∀ (a b:EV),beqEV a b=true→a=b
 | .lit v,b,h=>by cases b<;>simp only [beqEV] at h<;>first | (rw [Zh7 h]) | cases h
 | .ptr k o,b,h=>by
   cases b<;>simp only [beqEV] at h<;>try (cases h; done)
   obtain ⟨h1,h2⟩:=cond3 h;rw [Zp0 h1,Zp0 h2]
 | .sl k o n c d,b,h=>by
   cases b<;>simp only [beqEV] at h<;>try (cases h; done)
   obtain ⟨h1,h⟩:=cond3 h;obtain ⟨h2,h⟩:=cond3 h;obtain ⟨h3,h⟩:=cond3 h;obtain ⟨h4,h5⟩:=cond3 h;rw [Zp0 h1,Zp0 h2,Zp0 h3,Zls h4,Zp0 h5]
 | .es k o d lo s,b,h=>by
   cases b<;>simp only [beqEV] at h<;>try (cases h; done)
   obtain ⟨h1,h⟩:=cond3 h;obtain ⟨h2,h⟩:=cond3 h;obtain ⟨h3,h⟩:=cond3 h;obtain ⟨h4,h5⟩:=cond3 h;rw [Zp0 h1,Zp0 h2,Zp0 h3,Zp0 h4,Zp0 h5]
 | .map k,b,h=>by
   cases b<;>simp only [beqEV] at h<;>try (cases h; done)
   rw [Zp0 h]
 | .isl ex n cs,b,h=>by
   cases b<;>simp only [beqEV] at h<;>try (cases h; done)
   rename_i ex' n' cs';obtain ⟨h1,h⟩:=cond3 h;obtain ⟨h2,h3⟩:=cond3 h
   have:ex=ex':=by cases ex<;>cases ex'<;>simp_all
   rw [this,Zp0 h2,XL _ _ h3]
 | .iptr cs,b,h=>by
   cases b<;>simp only [beqEV] at h<;>try (cases h; done)
   rw [XL _ _ h]
 | .agg cs,b,h=>by
   cases b<;>simp only [beqEV] at h<;>try (cases h; done)
   rw [XL _ _ h]
 | .tuple cs,b,h=>by
   cases b<;>simp only [beqEV] at h<;>try (cases h; done)
   rw [XL _ _ h]
 | .func f x y,b,h=>by
   cases b<;>simp only [beqEV] at h<;>try (cases h; done)
   obtain ⟨h1,h⟩:=cond3 h;obtain ⟨h2,h3⟩:=cond3 h;rw [Zp0 h1,XL _ _ h2,XL _ _ h3]
 | .yield k,b,h=>by
   cases b<;>simp only [beqEV] at h<;>try (cases h; done)
   rw [Zp0 h]
 | .iface t v,b,h=>by
   cases b<;>simp only [beqEV] at h<;>try (cases h; done)
   obtain ⟨h1,h2⟩:=cond3 h;rw [Zp0 h1,ZaP _ _ h2]
theorem XL:∀ (a b:List EV),beqEL a b=true→a=b
 | [],b,h=>by cases b<;>simp only [beqEL] at h<;>first | rfl | cases h
 | a::asg,b,h=>by
   cases b<;>simp only [beqEL] at h<;>try (cases h; done)
   obtain ⟨h1,h2⟩:=cond3 h;rw [ZaP _ _ h1,XL _ _ h2]
end
def beqML:List (Value × EV)→List (Value × EV)→Bool
 | [],[]=>true
 | a::asg,b::bs=>cond (beqV a.1 b.1) (cond (beqEV a.2 b.2) (beqML asg bs) false) false
 | _,_=>false
theorem ZgT:∀ (a b:List (Value × EV)),beqML a b=true→a=b
 | [],b,h=>by cases b<;>simp only [beqML] at h<;>first | rfl | cases h
 | a::asg,b,h=>by
   cases b<;>simp only [beqML] at h<;>try (cases h; done)
   rename_i b bs;obtain ⟨h1,h⟩:=cond3 h;obtain ⟨h2,h3⟩:=cond3 h
   have:=Zh7 h1
   have:=ZaP _ _ h2
   obtain ⟨a1,a2⟩:=a;obtain ⟨b1,b2⟩:=b
   simp_all [ZgT _ _ h3]
def beqEB:EB→EB→Bool
 | .cells e cs,.cells e' cs'=>cond (ZpX e e') (beqEL cs cs') false
 | .grown e s cs,.grown e' s' cs'=>cond (ZpX e e') (cond (ZpX s s') (beqEL cs cs') false) false
 | .map t l,.map t' l'=>cond (ZpX t t') (beqML l l') false
 | .deferred,.deferred=>true
 | .dead,.dead=>true
 | _,_=>false
theorem Zdu {a b:EB} (h:beqEB a b=true):a=b:=by
 unfold beqEB at h;split at h
 ·obtain ⟨h1,h2⟩:=cond3 h;rw [Zp0 h1,XL _ _ h2]
 ·obtain ⟨h1,h⟩:=cond3 h;obtain ⟨h2,h3⟩:=cond3 h;rw [Zp0 h1,Zp0 h2,XL _ _ h3]
 ·obtain ⟨h1,h2⟩:=cond3 h;rw [Zp0 h1,ZgT _ _ h2]
 ·rfl
 ·rfl
 ·cases h
def beqO {α:Type} (f:α→α→Bool):Option α→Option α→Bool
 | none,none=>true
 | some a,some b=>f a b
 | _,_=>false
theorem ZmT {α:Type} {f:α→α→Bool} (hf:∀ a b,f a b=true→a=b) {a b:Option α} (h:beqO f a b=true):a=b:=by
 cases a<;>cases b<;>simp only [beqO] at h<;>first | rfl | cases h | (rw [hf _ _ h])
def beqTr {α:Type} (f:α→α→Bool):Tr α→Tr α→Bool
 | .lf,.lf=>true
 | .nd v l r,.nd v' l' r'=>cond (beqO f v v') (cond (beqTr f l l') (beqTr f r r') false) false
 | _,_=>false
theorem ZbV {α:Type} {f:α→α→Bool} (hf:∀ a b,f a b=true→a=b):∀ (a b:Tr α),beqTr f a b=true→a=b
 | .lf,b,h=>by cases b<;>simp only [beqTr] at h<;>first | rfl | cases h
 | .nd v l r,b,h=>by
   cases b<;>simp only [beqTr] at h<;>try (cases h; done)
   obtain ⟨h1,h⟩:=cond3 h;obtain ⟨h2,h3⟩:=cond3 h;rw [ZmT hf h1,ZbV hf _ _ h2,ZbV hf _ _ h3]
def beqED:List ED→List ED→Bool
 | [],[]=>true
 | .mark k::l,.mark k'::l'=>cond (ZpX k k') (beqED l l') false
 | .fn f a c::l,.fn f' a' c'::l'=>cond (ZpX f f') (cond (beqEL a a') (cond (beqEL c c') (beqED l l') false) false) false
 | _,_=>false
theorem Zdv:∀ (a b:List ED),beqED a b=true→a=b
 | [],b,h=>by cases b<;>simp only [beqED] at h<;>first | rfl | cases h
 | .mark k::l,b,h=>by
   cases b with
   | nil=>simp only [beqED] at h; cases h
   | cons b bs =>
     cases b<;>simp only [beqED] at h<;>try (cases h; done)
     obtain ⟨h1,h2⟩:=cond3 h;rw [Zp0 h1,Zdv _ _ h2]
 | .fn f a c::l,b,h=>by
   cases b with
   | nil=>simp only [beqED] at h; cases h
   | cons b bs =>
     cases b<;>simp only [beqED] at h<;>try (cases h; done)
     obtain ⟨h1,h⟩:=cond3 h;obtain ⟨h2,h⟩:=cond3 h;obtain ⟨h3,h4⟩:=cond3 h;rw [Zp0 h1,XL _ _ h2,XL _ _ h3,Zdv _ _ h4]
def beqES (a b:ES):Bool:=cond (ZpX a.nx b.nx) (cond (beqED a.d b.d) (cond (beqTr beqEV a.t b.t) (beqTr beqEB a.h b.h) false) false) false
theorem Zlt {a b:ES} (h:beqES a b=true):a=b:=by
 unfold beqES at h;obtain ⟨h1,h⟩:=cond3 h;obtain ⟨h2,h⟩:=cond3 h;obtain ⟨h3,h4⟩:=cond3 h;cases a; cases b;simp only [ES.mk.injEq];exact ⟨ZbV ZaP _ _ h3,Zdv _ _ h2,ZbV (fun _ _=>Zdu) _ _ h4,Zp0 h1⟩
abbrev RdL:=List (Nat × Nat × EB)
abbrev HsL:=List (List Nat × Tr EB)
def Zh8:EB→Bool
 | .cells _ _=>true
 | .grown _ _ _=>true
 | _=>false
def tkOp (C:Cfg) (t:Tr EV) (h0:Tr EB) (i:Nat) (op:Op):Option (EV × RdL) :=
 match op with
 | .load ty a=>(match evO t a with
   | .ptr k o=>(match h0.get k with
     | some b=>cond (Zh8 b) (match pureE C.P (evO t) (fun j=>cond (ZpX j k) (some b) none) (.load ty a) with | some v=>some (v,[(i,k,b)]) | none=>none) none
     | none=>none)
   | _=>(match pureE C.P (evO t) (fun _=>none) (.load ty a) with | some v=>some (v,[]) | none=>none))
 | op=>(match pureE C.P (evO t) (fun _=>none) op with | some v=>some (v,[]) | none=>none)
def tkE (C:Cfg) (N i:Nat) (o:GOp) (t:Tr EV) (h0:Tr EB):Option (EV × RdL) :=
 cond (dOkB N o.dst) (match o.g with
  | none=>tkOp C t h0 i o.op
  | some (d,want)=>(match t.get d with
    | some (.lit (.bool b))=>cond (cond b want (!want)) (tkOp C t h0 i o.op) (cond (Zc8 C o.op (evO t)) (some (.lit undef,[])) none)
    | _=>none)) none
def planE (C:Cfg) (call:CallF) (N rb:Nat) (out:Bool) (h0:Tr EB):GPlan→ES→Option (ES × RdL × HsL)
 | .fin,s=>some (s,[],[])
 | .tk i o p,s=>(match tkE C N i o s.t h0 with
   | some (v,rd)=>(match putE s o.dst v with
     | some s1=>(match planE C call N rb out h0 p s1 with | some (s',rd',hs)=>some (s',rd++rd',hs) | none=>none)
     | none=>none)
   | none=>none)
 | .one nd o p,s=>(match stepE C call N rb out false o s with
   | some s1=>(match planE C call N rb out h0 p s1 with | some (s',rd,hs)=>some (s',rd,(nd,s1.h)::hs) | none=>none)
   | none=>none)
 | .cut o p,s=>(match stepE C call N rb out false o s with
   | some s1=>planE C call N rb out h0 p s1
   | none=>none)
 | .two nd o p nd' o' p',s=>(match stepE C call N rb out false o s with
   | some s1=>(match planE C call N rb out h0 p s1 with
     | some (s',rd,hs)=>(match stepE C call N rb out false o' s with
       | some s2=>(match planE C call N rb out h0 p' s2 with
         | some (s'',rd',hs')=>cond (beqES s' s'') (some (s',rd++rd',((nd,s1.h)::hs)++((nd',s2.h)::hs'))) none
         | none=>none)
       | none=>none)
     | none=>none)
   | none=>none)
def memN:List Nat→Nat→Bool
 | [],_=>false
 | a::l,x=>cond (ZpX a x) true (memN l x)
theorem memN_of {l:List Nat} {x:Nat} (h:x∈l):memN l x=true:=by
 induction l with
 | nil=>cases h
 | cons a l ih =>
   simp only [memN];rcases List.mem_cons.1 h with rfl | h
   ·rw [Nat.beq_refl]; rfl
   ·rw [ih h]; cases ZpX a x<;>rfl
def keptB (nd:List Nat) (rd:RdL) (h:Tr EB):Bool:=rd.all fun p=>cond (memN nd p.1) (match h.get p.2.1 with | some b=>beqEB b p.2.2 | none=>false) true
def kept0 (rd:RdL) (h:Tr EB):Bool:=rd.all fun p=>match h.get p.2.1 with | some b=>beqEB b p.2.2 | none=>false
def dregE (C:Cfg) (call:CallF) (N:Nat) (out:Bool) (p:GPlan) (tail:List GOp) (s:ES):Option ES :=
 match planE C call N s.nx out s.h p { s with nx:=s.nx+N+1 } with
 | some (s1,rd,hs)=>cond (cond (kept0 rd s.h) (hs.all fun q=>keptB q.1 rd q.2) false) (Zde C call N s.nx out false tail s1) none
 | none=>none
def RdOk (P:Program) (σ:Sg) (Hi:Nat→AH) (rd:RdL):Prop:=∀ i k b,(i,k,b)∈rd→∃ p B,σ k=some p∧Hi i p.r=some B∧RB P σ p b B
section
variable {C:Cfg} {call:CallF} {N rb:Nat} {out:Bool} {ro:Option Nat} {Q:APost}
theorem ZmU {cx:Cx} (hP:cx.P=C.P) {σ0 σ:Sg} (hx:Ext σ0 σ) {t:Tr EV} {h0:Tr EB} {i:Nat} {op:Op} {A:AF} {Hi:Nat→AH} {v:EV} {rd:RdL} {K:VE→AH→Prop} (ht:∀ i,RVo σ (t.get i) (A.t i)) (he:tkOp C t h0 i op=some (v,rd))
 (hrd:RdOk C.P σ0 Hi rd) (hK:∀ z,RV σ v z→K (.ret z) (Hi i)):vcOp cx op A (Hi i) K:=by
 have hev:=Zax (σ:=σ) (t:=t) (A:=A) ht
 have key:∀ op',(match pureE C.P (evO t) (fun _=>none) op' with | some v=>some (v,([]:RdL)) | none=>none)=some (v,rd)→vcOp cx op' A (Hi i) K:=by
  intro op' h;split at h
  ·rename_i w hw;simp only [Option.some.injEq,Prod.mk.injEq] at h;obtain ⟨rfl,rfl⟩:=h;rw [← hP] at hw;exact Zdt (H:=Hi i) hev (fun k b hb=>by cases hb) hw hK
  ·cases h
 unfold tkOp at he;split at he
 ·rename_i ty a;split at he
  ·rename_i k o hk;split at he
   ·rename_i b hb;have hq:=condS he;clear he;obtain ⟨hc,he⟩:=hq;split at he
    ·rename_i w hw;simp only [Option.some.injEq,Prod.mk.injEq] at he;obtain ⟨rfl,rfl⟩:=he;rw [← hP] at hw;refine Zdt (H:=Hi i) hev (fun j c hj=>?_) hw hK;cases hjk:ZpX j k with
     | false=>simp [hjk] at hj
     | true =>
       simp only [hjk,cond_true,Option.some.injEq] at hj;subst hj;rw [Zp0 hjk];obtain ⟨p,B,g1,g2,g3⟩:=hrd i k b (List.mem_singleton.2 rfl);rw [hP];exact .inr ⟨p,B,hx _ _ g1,g2,g3.mono hx⟩
    ·cases he
   ·cases he
  ·exact key _ he
 ·exact key _ he
theorem Zpj (hC:CfgOk C) {σ0 σ:Sg} (hx:Ext σ0 σ) {s s1:ES} {h0:Tr EB} {i:Nat} {o:GOp} {A:AF} {H:AH} {Hi:Nat→AH} {v:EV} {rd:RdL} {k:AF→AH→Prop} (hs:RA C.P σ s A H) (he:tkE C N i o s.t h0=some (v,rd)) (hp:putE s o.dst v=some s1)
 (hrd:RdOk C.P σ0 Hi rd) (hk:∀ A' H',RA C.P σ s1 A' H→k A' H'):vcG ⟨C.P,N,ro⟩ o k Q A (Hi i):=by
 obtain ⟨dst,op,g⟩:=o;unfold tkE at he;have hq:=condS he;clear he;obtain ⟨hd,he⟩:=hq
 have hdo:tkOp C s.t h0 i op=some (v,rd)→vcDo ⟨C.P,N,ro⟩ ⟨dst,op,g⟩ k Q A (Hi i):=by
  intro h;refine ⟨Zcm hd,?_⟩
  have:vcOp ⟨C.P,N,ro⟩ op A (Hi i) (vcK k Q dst A):=ZmU (cx:=⟨C.P,N,ro⟩) rfl hx hs.t h hrd fun z hz=>hk _ _ (Zbt hs hz hp)
  cases op with
  | defer c=>simp only [vcOp] at this
  | _=>exact this
 unfold vcG;dsimp only at he ⊢;split at he
 ·exact hdo he
 ·rename_i d want;have ht:=hs.t d;dsimp only;split at he
  ·rename_i b e;rw [e] at ht;rw [show A.t d=.lit (.bool b) from ht];dsimp only;cases hb:cond b want (!want) with
   | true =>
     simp only [hb,cond_true] at he;rw [if_pos (ZkF hb)];exact hdo he
   | false =>
     simp only [hb,cond_false] at he;rw [if_neg (ZkG hb)];have hq:=condS he;clear he;obtain ⟨hc,he⟩:=hq;simp only [Option.some.injEq,Prod.mk.injEq] at he;obtain ⟨rfl,rfl⟩:=he;exact ⟨Zcm hd,Zfy hC (Zax hs.t) hc,hk _ _ (Zbt (x:=ZD) (v:=.lit undef) hs rfl hp)⟩
  ·cases he
theorem Zac (hC:CfgOk C) (hcall:Zas C call) (hout:out=true→ro=none) {σ0:Sg} {h0:Tr EB} {Hi:Nat→AH} {K:AF→AH→Prop}:∀ (p:GPlan) (s s':ES) (rd:RdL) (hs:HsL),planE C call N rb out h0 p s=some (s',rd,hs) →
 ∀ (σ:Sg) (A:AF) (H:AH),Ext σ0 σ→RA C.P σ s A H→RdOk C.P σ0 Hi rd→(∀ q∈hs,∀ σ' H',Ext σ0 σ'→HR C.P σ' q.2 H'→∀ k∈q.1,SubH (Hi k) H')→(∀ σ' A' H',Ext σ0 σ'→RA C.P σ' s' A' H'→K A' H')→vcPl2 ⟨C.P,N,ro⟩ Hi p K Q A H
 | .fin,s,s',rd,hs,he,σ,A,H,hx,hr,hrd,hhs,hK=>by
   simp only [planE,Option.some.injEq,Prod.mk.injEq] at he;obtain ⟨rfl,_,_⟩:=he;exact hK σ A H hx hr
 | .tk i o p,s,s',rd,hs,he,σ,A,H,hx,hr,hrd,hhs,hK=>by
   simp only [planE] at he;split at he
   ·rename_i v rd0 htk;split at he
    ·rename_i s1 hput;split at he
     ·rename_i s2 rd1 hs1 hpl;simp only [Option.some.injEq,Prod.mk.injEq] at he;obtain ⟨rfl,rfl,rfl⟩:=he;refine Zpj hC hx hr htk hput (fun i k b hm=>hrd i k b (List.mem_append.2 (.inl hm))) fun A' H' hr'=>?_
      exact Zac hC hcall hout p s1 s2 rd1 hs1 hpl σ A' H hx hr' (fun i k b hm=>hrd i k b (List.mem_append.2 (.inr hm))) hhs hK
     ·cases he
    ·cases he
   ·cases he
 | .one nd o p,s,s',rd,hs,he,σ,A,H,hx,hr,hrd,hhs,hK=>by
   simp only [planE] at he;split at he
   ·rename_i s1 hst;split at he
    ·rename_i s2 rd1 hs1 hpl;simp only [Option.some.injEq,Prod.mk.injEq] at he;obtain ⟨rfl,rfl,rfl⟩:=he;refine Zao hC hcall hout hr hst fun σ1 A1 H1 hx1 hr1=>⟨fun k hk _=>hhs (nd,s1.h) (by simp) σ1 H1 (hx.trans hx1) hr1.h k hk,?_⟩
     exact Zac hC hcall hout p s1 s2 rd1 hs1 hpl σ1 A1 H1 (hx.trans hx1) hr1 hrd (fun h hm=>hhs h (by simp [hm])) hK
    ·cases he
   ·cases he
 | .cut o p,s,s',rd,hs,he,σ,A,H,hx,hr,hrd,hhs,hK=>by
   simp only [planE] at he;split at he
   ·rename_i s1 hst;refine Zao hC hcall hout hr hst fun σ1 A1 H1 hx1 hr1=>?_
    exact Zac hC hcall hout p s1 s' rd hs he σ1 A1 H1 (hx.trans hx1) hr1 hrd hhs hK
   ·cases he
 | .two nd o p nd' o' p',s,s',rd,hs,he,σ,A,H,hx,hr,hrd,hhs,hK=>by
   simp only [planE] at he;split at he
   ·rename_i s1 hst;split at he
    ·rename_i s2 rd1 hs1 hpl;split at he
     ·rename_i s3 hst';split at he
      ·rename_i s4 rd2 hs2 hpl';have hq:=condS he;clear he;obtain ⟨hc,he⟩:=hq;have heq:=Zlt hc;subst heq;simp only [Option.some.injEq,Prod.mk.injEq] at he;obtain ⟨rfl,rfl,rfl⟩:=he;refine ⟨?_,?_⟩
       ·refine Zao hC hcall hout hr hst fun σ1 A1 H1 hx1 hr1=>⟨fun k hk _=>hhs (nd,s1.h) (by simp) σ1 H1 (hx.trans hx1) hr1.h k hk,?_⟩
        exact Zac hC hcall hout p s1 s2 rd1 hs1 hpl σ1 A1 H1 (hx.trans hx1) hr1 (fun i k b hm=>hrd i k b (List.mem_append.2 (.inl hm))) (fun h hm=>hhs h (by simp [hm])) hK
       ·refine Zao hC hcall hout hr hst' fun σ1 A1 H1 hx1 hr1=>⟨fun k hk _=>hhs (nd',s3.h) (by simp) σ1 H1 (hx.trans hx1) hr1.h k hk,?_⟩
        exact Zac hC hcall hout p' s3 s2 rd2 hs2 hpl' σ1 A1 H1 (hx.trans hx1) hr1 (fun i k b hm=>hrd i k b (List.mem_append.2 (.inr hm))) (fun h hm=>hhs h (by simp [hm])) hK
      ·cases he
     ·cases he
    ·cases he
   ·cases he
theorem ZmV {rd:RdL} {h:Tr EB} (hk:kept0 rd h=true) {i k:Nat} {b:EB} (hm:(i,k,b)∈rd):h.get k=some b:=by
 unfold kept0 at hk;rw [List.all_eq_true] at hk
 have:=hk (i,k,b) hm
 dsimp only at this;split at this
 ·rename_i b' e; rw [e,Zdu this]
 ·cases this
theorem ZmW {nd:List Nat} {rd:RdL} {h:Tr EB} (hk:keptB nd rd h=true) {i k:Nat} {b:EB} (hm:(i,k,b)∈rd) (hi:i∈nd):h.get k=some b:=by
 unfold keptB at hk;rw [List.all_eq_true] at hk
 have:=hk (i,k,b) hm
 dsimp only at this;rw [memN_of hi] at this;simp only [cond_true] at this;split at this
 ·rename_i b' e; rw [e,Zdu this]
 ·cases this
theorem condC {α:Type} {c:Bool} {x y v:α} (h:cond c x y=v):(c=true∧x=v)∨(c=false∧y=v):=by cases c<;>simp_all
theorem Zad (hC:CfgOk C) {h0:Tr EB}:∀ (p:GPlan) (s s':ES) (rd:RdL) (hs:HsL),planE C call N rb out h0 p s=some (s',rd,hs)→∀ i k b,(i,k,b)∈rd→Zh8 b=true
 | .fin,s,s',rd,hs,he=>by
   simp only [planE,Option.some.injEq,Prod.mk.injEq] at he;obtain ⟨_,rfl,_⟩:=he;intro i k b hm; cases hm
 | .tk i0 o p,s,s',rd,hs,he=>by
   simp only [planE] at he;split at he
   ·rename_i v rd0 htk;split at he
    ·rename_i s1 hput;split at he
     ·rename_i s2 rd1 hs1 hpl;simp only [Option.some.injEq,Prod.mk.injEq] at he;obtain ⟨rfl,rfl,rfl⟩:=he;intro i k b hm;rcases List.mem_append.1 hm with hm | hm
      ·have key:∀ op v rd,tkOp C s.t h0 i0 op=some (v,rd)→(i,k,b)∈rd→Zh8 b=true:=by
        intro op v rd he hm;unfold tkOp at he;split at he
        ·split at he
         ·split at he
          ·have hq:=condS he;clear he;obtain ⟨hc,he⟩:=hq;split at he
           ·simp only [Option.some.injEq,Prod.mk.injEq] at he;obtain ⟨_,rfl⟩:=he;simp only [List.mem_singleton,Prod.mk.injEq] at hm;obtain ⟨_,_,rfl⟩:=hm;exact hc
           ·cases he
          ·cases he
         ·split at he
          ·simp only [Option.some.injEq,Prod.mk.injEq] at he;obtain ⟨_,rfl⟩:=he;cases hm
          ·cases he
        ·split at he
         ·simp only [Option.some.injEq,Prod.mk.injEq] at he;obtain ⟨_,rfl⟩:=he;cases hm
         ·cases he
       unfold tkE at htk;have hq:=condS htk;clear htk;obtain ⟨_,htk⟩:=hq;split at htk
       ·exact key _ _ _ htk hm
       ·split at htk
        ·rcases condC htk with ⟨_,htk1⟩ | ⟨_,htk1⟩
         ·exact key _ _ _ htk1 hm
         ·have htk2:=(condS htk1).2;simp only [Option.some.injEq,Prod.mk.injEq] at htk2;obtain ⟨_,rfl⟩:=htk2;cases hm
        ·cases htk
      ·exact Zad hC p s1 s2 rd1 hs1 hpl i k b hm
     ·cases he
    ·cases he
   ·cases he
 | .one nd o p,s,s',rd,hs,he=>by
   simp only [planE] at he;split at he
   ·rename_i s1 hst;split at he
    ·rename_i s2 rd1 hs1 hpl;simp only [Option.some.injEq,Prod.mk.injEq] at he;obtain ⟨rfl,rfl,rfl⟩:=he;exact Zad hC p s1 s2 rd1 hs1 hpl
    ·cases he
   ·cases he
 | .cut o p,s,s',rd,hs,he=>by
   simp only [planE] at he;split at he
   ·rename_i s1 hst;exact Zad hC p s1 s' rd hs he
   ·cases he
 | .two nd o p nd' o' p',s,s',rd,hs,he=>by
   simp only [planE] at he;split at he
   ·rename_i s1 hst;split at he
    ·rename_i s2 rd1 hs1 hpl;split at he
     ·rename_i s3 hst';split at he
      ·rename_i s4 rd2 hs2 hpl';have hq:=condS he;clear he;obtain ⟨hc,he⟩:=hq;simp only [Option.some.injEq,Prod.mk.injEq] at he;obtain ⟨rfl,rfl,rfl⟩:=he;intro i k b hm;rcases List.mem_append.1 hm with hm | hm
       ·exact Zad hC p s1 s2 rd1 hs1 hpl i k b hm
       ·exact Zad hC p' s3 s4 rd2 hs2 hpl' i k b hm
      ·cases he
     ·cases he
    ·cases he
   ·cases he
theorem Zfz {b:EB} (h:Zh8 b=true):b.isDead=false:=by cases b<;>first | rfl | cases h
open Classical in
theorem Zlu (hC:CfgOk C) (hcall:Zas C call) (hout:out=true→ro=none) (hQ:panQ Q) {p:GPlan} {tail:List GOp} {s s':ES} {σ:Sg} {A:AF} {H:AH} (hr:RA C.P σ s A H) (he:dregE C call N out p tail s=some s')
 (hk:∀ σ' A' H',Ext σ σ'→RA C.P σ' s' A' H'→Q .normal A' H'):ACx ⟨C.P,N,ro⟩ (.dreg p tail) Q A H:=by
 unfold dregE at he;split at he
 ·rename_i s1 rd hs hpl;have hq:=condS he;clear he;obtain ⟨hc,he⟩:=hq;obtain ⟨hc0,hc⟩:=cond3 hc;rw [List.all_eq_true] at hc;have hcells:=Zad hC p _ _ _ _ hpl
  have h0:∀ i k b,(i,k,b)∈rd→∃ q B,σ k=some q∧H q.r=some B∧RB C.P σ q b B:=fun i k b hm=>by
   rcases hr.h.blk k b (ZmV hc0 hm) with hd | h
   ·rw [Zfz (hcells i k b hm)] at hd; cases hd
   ·exact h
  let Hi:Nat→AH:=fun i r=>if ∃ k b q,(i,k,b)∈rd∧σ k=some q∧q.r=r then H r else none
  have hsub:∀ i,SubH (Hi i) H:=fun i r B hB=>by
   simp only [Hi] at hB;split at hB
   ·exact hB
   ·cases hB
  refine Zcj (cx:=⟨C.P,N,ro⟩) hC.mixed hQ Hi hsub ?_;refine Zac hC hcall hout p _ _ _ _ hpl σ A H (Ext.refl σ) ⟨hr.t,hr.d,hr.h⟩ (fun i k b hm=>?_) (fun q hm σ' H' hx hr' i hi=>?_) (fun σ1 A1 H1 hx hr1=>?_)
  ·obtain ⟨q,B,g1,g2,g3⟩:=h0 i k b hm;refine ⟨q,B,g1,?_,g3⟩;simp only [Hi];rw [if_pos ⟨k,b,q,hm,g1,rfl⟩];exact g2
  ·intro r B hB;simp only [Hi] at hB;split at hB
   ·rename_i hex;obtain ⟨k,b,q,hm',g1,rfl⟩:=hex;obtain ⟨q',B',f1,f2,f3⟩:=h0 i k b hm';rw [g1] at f1; cases f1;obtain rfl:B'=B:=by rw [f2] at hB; exact Option.some.inj hB
    rcases hr'.blk k b (ZmW (hc _ hm) hm' hi) with hd | ⟨q2,B2,e1,e2,e3⟩
    ·rw [Zfz (hcells i k b hm')] at hd; cases hd
    ·rw [hx _ _ g1] at e1; cases e1;have hcb:=hcells i k b hm'
     have:B'=B2:=RB.fn hx (by
      cases b with
      | cells e cs=>exact .inl ⟨e,cs,rfl⟩
      | grown e s cs=>exact .inr ⟨e,s,cs,rfl⟩
      | _=>cases hcb) f3 e3
     rw [this];exact e2
   ·cases hB
  ·exact ZeV hC hcall hout tail σ1 s1 s' A1 H1 hr1 he fun σ' A' H' hx'=>hk σ' A' H' (hx.trans hx')
 ·cases he
end
end Go.PV
end
section
open Nat renaming beq→ZpX,eq_of_beq_eq_true→Zp0
namespace Go.PV
inductive Ex where
 | nrm
 | ext (id:Nat)
 | ret
def loopE (body:ES→Option (Ex × ES)):Nat→ES→Option (Ex × ES)
 | 0,_=>none
 | n+1,s=>match body s with
   | some (.nrm,s1)=>loopE body n s1
   | some (.ret,s1)=>some (.ret,s1)
   | some (.ext i,s1)=>some (.ext i,s1)
   | none=>none
def ZnF (C:Cfg):EV→Bool
 | .func g _ _=>(C.ft g).isSome
 | .lit (.func (.func g) _ _)=>(C.ft g).isSome
 | _=>false
def beqNL:List Nat→List Nat→Bool
 | [],[]=>true
 | a::asg,b::bs=>cond (ZpX a b) (beqNL asg bs) false
 | _,_=>false
theorem ZgU:∀ (a b:List Nat),beqNL a b=true→a=b
 | [],b,h=>by cases b<;>simp only [beqNL] at h<;>first | rfl | cases h
 | a::asg,b,h=>by
   cases b<;>simp only [beqNL] at h<;>try (cases h; done)
   obtain ⟨h1,h2⟩:=cond3 h;rw [Zp0 h1,ZgU _ _ h2]
def sameL (N N':Nat) (ps ps':Array Tmp) (r r':Nat):Bool:=cond (ZpX N' N) (cond (ZpX r' r) (beqNL ps'.toList ps.toList) false) false
theorem Zdw {N N':Nat} {ps ps':Array Tmp} {r r':Nat} (h:sameL N N' ps ps' r r'=true):N'=N∧ps'=ps∧r'=r:=by
 unfold sameL at h;obtain ⟨h1,h⟩:=cond3 h;obtain ⟨h2,h3⟩:=cond3 h;exact ⟨Zp0 h1,Array.toList_inj.1 (ZgU _ _ h3),Zp0 h2⟩
def ZnG (C:Cfg) (call:CallF) (N:Nat) (out:Bool) (f:Operand) (ps:Array Tmp) (asg bd:ACode) (s:ES):Option (Ex × ES) :=
 cond (cond out (ZnF C (evO s.t f)) false) (match newB s.h s.nx .deferred with
  | some h1=>(match newB h1 (s.nx+1) (.loop .ready none N s.t ps asg bd s.nx) with
    | some h2=>(match call (evO s.t f) [.yield (s.nx+1)] h2 (s.nx+2) with
      | some (_,h3,nx3)=>(match h3.get (s.nx+1) with
        | some (.loop st j N' _ ps' _ _ r')=>(match cond (sameL N N' ps ps' s.nx r') st .busy with
          | .busy=>none
          | _=>(match Tr.set 40 h3 (s.nx+1) .dead with
            | some h4=>some (match j with | none=>.nrm | some none=>.ret | some (some id)=>.ext id,{ s with h:=h4,nx:=nx3,d:=.mark s.nx::s.d })
            | none=>none))
        | _=>none)
      | none=>none)
    | none=>none)
  | none=>none) none
def codeE (C:Cfg) (call:CallF) (lim N:Nat) (out:Bool):ACode→ES→Option (Ex × ES)
 | .skip,s=>some (.nrm,s)
 | .reg l,s=>(match Zde C call N s.nx out true l { s with nx:=s.nx+N+1 } with | some s'=>some (.nrm,s') | none=>none)
 | .dreg p tail,s=>(match dregE C call N out p tail s with | some s'=>some (.nrm,s') | none=>none)
 | .seq a b,s=>(match codeE C call lim N out a s with
   | some (.nrm,s1)=>codeE C call lim N out b s1
   | some (.ret,s1)=>some (.ret,s1)
   | some (.ext i,s1)=>some (.ext i,s1)
   | none=>none)
 | .seqL a b,s=>(match codeE C call lim N out a s with
   | some (.nrm,s1)=>codeE C call lim N out b s1
   | some (.ret,s1)=>some (.ret,s1)
   | some (.ext i,s1)=>some (.ext i,s1)
   | none=>none)
 | .cond c a b,s=>(match evO s.t c with
   | .lit (.bool t)=>cond t (codeE C call lim N out a s) (codeE C call lim N out b s)
   | _=>none)
 | .block id a,s=>(match codeE C call lim N out a s with
   | some (.nrm,s1)=>some (.nrm,s1)
   | some (.ret,s1)=>some (.ret,s1)
   | some (.ext i,s1)=>cond (ZpX i id) (some (.nrm,s1)) (some (.ext i,s1))
   | none=>none)
 | .loop a,s=>loopE (codeE C call lim N out a) lim s
 | .exit id,s=>some (.ext id,s)
 | .ret,s=>some (.ret,s)
 | .scope a,s=>codeE C call lim N out a s
 | .rfunc f ps asg bd,s=>ZnG C call N out f ps asg bd s
 | .bad,_=>none
def toQ (K:Ex→AF→AH→Prop):APost
 | .normal=>K .nrm
 | .exit id=>K (.ext id)
 | .ret=>K .ret
 | _=>fun _ _=>False
theorem Zf9 (K:Ex→AF→AH→Prop):Zcn (toQ K):=fun _ _ _ h=>h
theorem toQ_pan (K:Ex→AF→AH→Prop):panQ (toQ K):=fun _ _ _ _ _ h=>h.elim
def onN (K:Ex→AF→AH→Prop) (k:AF→AH→Prop):Ex→AF→AH→Prop
 | .nrm=>k
 | e=>K e
theorem ZiA (K:Ex→AF→AH→Prop) (k:AF→AH→Prop):toQ (onN K k)=thenA k (toQ K):=by
 funext e
 cases e<;>rfl
section
variable {cx:Cx} {Q Q':APost} {A:AF} {H:AH}
theorem ZiB {a:ACode} (h:ACx cx a Q A H) (hQ:∀ e A H,Q e A H→Q' e A H):ACx cx a Q' A H:=fun c hc=>(h c hc).mono hQ
theorem Zpk {a b:ACode} {K:AF→AH→Prop} (hK:∀ A H,K A H→ACx cx b Q A H) (h:ACx cx a (thenA K Q) A H):ACx cx (.seqL a b) Q A H:=by
 intro c hc;cases c with
 | seq x y =>
   simp only [ZS] at hc;split at hc
   ·injection hc with h1 h2
    refine ZkH ((h x h1).mono ?_);intro e A' H' hq;cases e with
    | normal=>exact hK A' H' hq y h2
    | _=>exact hq
   ·cases hc
 | region id ops draw =>
   simp only [ZS] at hc;split at hc
   ·unfold Xo at hc;dsimp only at hc;split at hc
    ·split at hc<;>cases hc
    ·cases hc
   ·split at hc<;>cases hc
 | _=>simp only [ZS] at hc; cases hc
theorem Zpl {o:Operand} {a b:ACode} {t:Bool} (ho:A.eval o=.lit (.bool t)) (h:ACx cx (if t then a else b) Q A H):ACx cx (.cond o a b) Q A H:=by
 intro c hc;cases c with
 | cond o' x y =>
   simp only [ZS,ACode.cond.injEq] at hc;obtain ⟨rfl,h1,h2⟩:=hc;refine ZnI ho ?_;cases t
   ·exact h y h2
   ·exact h x h1
 | region id ops draw =>
   simp only [ZS] at hc;split at hc
   ·unfold Xo at hc;dsimp only at hc;split at hc
    ·split at hc<;>cases hc
    ·cases hc
   ·split at hc<;>cases hc
 | seq x y=>simp only [ZS] at hc; split at hc<;>cases hc
 | _=>simp only [ZS] at hc; cases hc
theorem ZmX {id:Nat} {a:ACode} (h:ACx cx a (Xh id Q) A H):ACx cx (.block id a) Q A H:=by
 intro c hc;cases c with
 | block i x =>
   simp only [ZS,ACode.block.injEq] at hc;obtain ⟨rfl,h1⟩:=hc;exact Zic (h x h1)
 | region id ops draw =>
   simp only [ZS] at hc;split at hc
   ·unfold Xo at hc;dsimp only at hc;split at hc
    ·split at hc<;>cases hc
    ·cases hc
   ·split at hc<;>cases hc
 | seq x y=>simp only [ZS] at hc; split at hc<;>cases hc
 | _=>simp only [ZS] at hc; cases hc
theorem ZmY (hQ:Zcn Q) {a:ACode} (h:ACx cx a Q A H):ACx cx (.scope a) Q A H:=by
 intro c hc;cases c with
 | scope x =>
   simp only [ZS,ACode.scope.injEq] at hc;exact ZlD hQ (h x hc)
 | region id ops draw =>
   simp only [ZS] at hc;split at hc
   ·unfold Xo at hc;dsimp only at hc;split at hc
    ·split at hc<;>cases hc
    ·cases hc
   ·split at hc<;>cases hc
 | seq x y=>simp only [ZS] at hc; split at hc<;>cases hc
 | _=>simp only [ZS] at hc; cases hc
end
section
variable {C:Cfg} {call:CallF} {lim N:Nat} {out:Bool} {ro:Option Nat}
theorem Zlv {a:ACode} (ha:∀ (s s':ES) (e:Ex),codeE C call lim N out a s=some (e,s')→∀ (σ:Sg) (A:AF) (H:AH) (K:Ex→AF→AH→Prop),RA C.P σ s A H→(∀ σ' A' H',Ext σ σ'→RA C.P σ' s' A' H'→K e A' H')→ACx ⟨C.P,N,ro⟩ a (toQ K) A H)
 {n:Nat} {s s':ES} {e:Ex} (he:loopE (codeE C call lim N out a) n s=some (e,s')) {σ:Sg} {A:AF} {H:AH} {K:Ex→AF→AH→Prop} (hs:RA C.P σ s A H) (hK:∀ σ' A' H',Ext σ σ'→RA C.P σ' s' A' H'→K e A' H'):ACx ⟨C.P,N,ro⟩ (.loop a) (toQ K) A H:=by
 let J:AF→AH→Nat→Prop:=fun A H n=>∃ σ1 s1,Ext σ σ1∧RA C.P σ1 s1 A H∧loopE (codeE C call lim N out a) n s1=some (e,s')
 refine ZoP (fun A H=>∃ n,J A H n) (fun A H=>leastOf (J A H)) ⟨n,σ,s,Ext.refl σ,hs,he⟩ ?_;intro A H hJ;obtain ⟨⟨σ1,s1,hx1,hs1,he1⟩,hmin⟩:=leastOf_spec hJ;rw [← ZiA];generalize hm:leastOf (J A H)=m at he1 hmin;cases m with
 | zero=>simp [loopE] at he1
 | succ m =>
   simp only [loopE] at he1;split at he1
   ·rename_i s2 hb;refine ha _ _ _ hb σ1 A H _ hs1 fun σ2 A2 H2 hx2 hs2=>?_
    have hJ2:J A2 H2 m:=⟨σ2,s2,hx1.trans hx2,hs2,he1⟩
    refine ⟨⟨m,hJ2⟩,?_⟩
    have:=(leastOf_spec (p:=J A2 H2) ⟨m,hJ2⟩).2 m hJ2
    omega
   ·rename_i s2 hb;simp only [Option.some.injEq,Prod.mk.injEq] at he1;obtain ⟨rfl,rfl⟩:=he1;exact ha _ _ _ hb σ1 A H _ hs1 fun σ2 A2 H2 hx2 hs2=>hK σ2 A2 H2 (hx1.trans hx2) hs2
   ·rename_i i s2 hb;simp only [Option.some.injEq,Prod.mk.injEq] at he1;obtain ⟨rfl,rfl⟩:=he1;exact ha _ _ _ hb σ1 A H _ hs1 fun σ2 A2 H2 hx2 hs2=>hK σ2 A2 H2 (hx1.trans hx2) hs2
   ·cases he1
theorem Zlw (hC:CfgOk C) {σ:Sg} {f:EV} {x:VV} (h:ZnF C f=true) (hx:RV σ f x):∃ g first cap,FunV x g first cap∧ZF C.P g=true:=by
 have hft:∀ g,(C.ft g).isSome=true→ZF C.P g=true:=fun g hg=>by
  obtain ⟨⟨N,rs,a⟩,e⟩:=Option.isSome_iff_exists.1 hg;exact (hC.ft g N rs a e).2
 unfold ZnF at h;split at h
 ·obtain ⟨asg,bs,rfl,_⟩:=hx; exact ⟨_,_,_,.inl rfl,hft _ h⟩
 ·obtain rfl:=hx; exact ⟨_,_,_,.inr ⟨_,_,rfl,rfl,rfl⟩,hft _ h⟩
 ·cases h
theorem ZmZ {P:Program} {x:VV} {g:FuncId} {first cap xs:List VV} {H:AH} {K:VE→AH→Prop} (hf:FunV x g first cap) (h:WJ P ro x xs H K):ZF P g=true∧ZT P g (first++xs++cap) H K:=by
 rcases hf with rfl | ⟨a,b,rfl,rfl,rfl⟩
 ·exact h
 ·exact h
theorem Zkk (hC:CfgOk C) (hcall:Zas C call) (hout:out=true→ro=none) {f:Operand} {ps:Array Tmp} {asg bd:ACode} {s s':ES} {e:Ex} (he:ZnG C call N out f ps asg bd s=some (e,s')) {σ:Sg} {A:AF} {H:AH} {K:Ex→AF→AH→Prop}
 (hs:RA C.P σ s A H) (hK:∀ σ' A' H',Ext σ σ'→RA C.P σ' s' A' H'→K e A' H'):ACx ⟨C.P,N,ro⟩ (.rfunc f ps asg bd) (toQ K) A H:=by
 unfold ZnG at he;have hq:=condS he;clear he;obtain ⟨hc,he⟩:=hq;obtain ⟨ho,hf⟩:=cond3 hc;have hfr:=Zax (σ:=σ) (A:=A) hs.t f;obtain ⟨g,first,cap,hF,hen⟩:=Zlw hC hf hfr;split at he
 ·rename_i h1 hn1;split at he
  ·rename_i h2 hn2;split at he
   ·rename_i v3 h3 nx3 hcl;split at he
    ·rename_i st j N' t' ps' as' bd' r' hg3;split at he
     ·cases he
     ·rename_i st' hst;split at he
      ·rename_i h4 hset;simp only [Option.some.injEq,Prod.mk.injEq] at he;obtain ⟨rfl,rfl⟩:=he
       have setup:∀ r l fn ca cb,ZS C.P ca=asg→ZS C.P cb=bd→H r=none→H l=none→l ≠ r→(C.P.funcs[fn]?).isSome=true →
        ∃ σ2,Ext σ σ2∧HR C.P σ2 h2 ((H.set r (.obj (.deferred (some [])))).set l (.loop .ready none fn N A.t ps ca cb r))∧σ2 (s.nx+1)=some { r:=l,fn,ca,cb,t:=A.t }∧σ2 s.nx=some { r:=r }:=by
        intro r l fn ca cb hca hcb hr hl hlr hfn;obtain ⟨x1,r1⟩:=hs.h.new (p:={ r:=r }) hn1 hr (B:=.obj (.deferred (some []))) rfl;have hl1:(H.set r (.obj (.deferred (some [])))) l=none:=by rw [AH.set_ne _ _ hlr]; exact hl
        have hne:sgS σ s.nx { r:=r } (s.nx+1)=none:=r1.dom _ (Zeg hn2).1;have x2:=Zh4 (p:={ r:=l,fn,ca,cb,t:=A.t }) hne;have hsn:sgS (sgS σ s.nx { r:=r }) (s.nx+1) { r:=l,fn,ca,cb,t:=A.t } s.nx=some { r:=r }:=x2 _ _ (JV _ _ _)
        obtain ⟨x2',r2⟩:=r1.new (p:={ r:=l,fn,ca,cb,t:=A.t }) hn2 hl1 (B:=.loop .ready none fn N A.t ps ca cb r)
         ⟨none,{ r:=r },rfl,hsn,fun _=>rfl,hca,hcb,hfn,fun i=>((hs.t i).mono x1).mono x2⟩
        exact ⟨_,x1.trans x2,r2,JV _ _ _,hsn⟩
       have hsame:sameL N N' ps ps' s.nx r'=true:=by
        cases hb:sameL N N' ps ps' s.nx r' with
        | true=>rfl
        | false=>rw [hb] at hst; exact absurd rfl hst
       rw [hsame] at hst;obtain ⟨rfl,rfl,rfl⟩:=Zdw hsame;refine Zd2 (cx:=⟨C.P,N',ro⟩) (hout ho) hF hen fun r l fn ca cb hca hcb hr hl hlr hfn=>?_
       obtain ⟨σ2,x2,r2,hp2,hq2⟩:=setup r l fn ca cb hca hcb hr hl hlr hfn;refine (ZmZ (ro:=ro) hF (hcall _ _ _ _ _ _ _ hcl σ2 _ (A.eval f) [.lit (.func (.yield l) #[] #[])] ro _ r2 (RV.mono x2 _ _ hfr) ⟨_,[],rfl,⟨_,hp2,rfl⟩,rfl⟩ fun σ3 H3 x x3 r3 _=>?_)).2;rcases r3.blk _ _ hg3 with hd | ⟨q,B,e1,e2,e3⟩
       ·cases hd
       ·rw [x3 _ _ hp2] at e1; cases e1;obtain ⟨pe,q2,rfl,f1,f2,f3,f4,f5,f6⟩:=e3;rw [x3 _ _ hq2] at f1; cases f1;refine ⟨st,pe,e2,hst,?_⟩
        have hra:RA C.P σ3 { s with h:=h4,nx:=nx3,d:=.mark s.nx::s.d } { A with d:=JM r::A.d } (H3.del l) :=
         ⟨fun i=>((hs.t i).mono x2).mono x3,⟨_,_,rfl,⟨_,x3 _ _ hq2,rfl⟩,(hs.d.mono x2).mono x3⟩,r3.kill (p:={ r:=l,fn,ca,cb,t:=A.t }) hg3 rfl (x3 _ _ hp2) hset⟩
        have:=hK σ3 _ _ (x2.trans x3) hra
        rw [f2 hst];cases j with
        | none=>exact this
        | some j =>
          cases j with
          | none=>exact this
          | some id=>exact this
      ·cases he
    ·cases he
   ·cases he
  ·cases he
 ·cases he
theorem Yv (hC:CfgOk C) (hcall:Zas C call) (hout:out=true→ro=none):∀ (a:ACode) (s s':ES) (e:Ex),codeE C call lim N out a s=some (e,s')→∀ (σ:Sg) (A:AF) (H:AH) (K:Ex→AF→AH→Prop),RA C.P σ s A H →
 (∀ σ' A' H',Ext σ σ'→RA C.P σ' s' A' H'→K e A' H')→ACx ⟨C.P,N,ro⟩ a (toQ K) A H
 | .skip,s,s',e,he,σ,A,H,K,hs,hK=>by
   simp only [codeE,Option.some.injEq,Prod.mk.injEq] at he;obtain ⟨rfl,rfl⟩:=he;exact Zen (Zf9 K) (hK σ A H (Ext.refl σ) hs)
 | .reg l,s,s',e,he,σ,A,H,K,hs,hK=>by
   simp only [codeE] at he;split at he
   ·rename_i s1 h1;simp only [Option.some.injEq,Prod.mk.injEq] at he;obtain ⟨rfl,rfl⟩:=he;exact acx_reg2 (ZeU hC hcall hout l σ { s with nx:=s.nx+N+1 } _ A H ⟨hs.t,hs.d,hs.h⟩ h1 hK)
   ·cases he
 | .dreg p tail,s,s',e,he,σ,A,H,K,hs,hK=>by
   simp only [codeE] at he;split at he
   ·rename_i s1 h1;simp only [Option.some.injEq,Prod.mk.injEq] at he;obtain ⟨rfl,rfl⟩:=he;exact Zlu hC hcall hout (toQ_pan K) hs h1 hK
   ·cases he
 | .seq a b,s,s',e,he,σ,A,H,K,hs,hK=>by
   simp only [codeE] at he;refine acx_seqA (K:=fun A H=>ACx ⟨C.P,N,ro⟩ b (toQ K) A H) (fun A H h=>h) ?_;rw [← ZiA];split at he
   ·rename_i s1 h1;exact Yv hC hcall hout a s s1 .nrm h1 σ A H _ hs fun σ1 A1 H1 hx hs1=>Yv hC hcall hout b s1 s' e he σ1 A1 H1 K hs1 fun σ' A' H' hx'=>hK σ' A' H' (hx.trans hx')
   ·rename_i s1 h1;simp only [Option.some.injEq,Prod.mk.injEq] at he;obtain ⟨rfl,rfl⟩:=he;exact Yv hC hcall hout a s s1 .ret h1 σ A H _ hs hK
   ·rename_i i s1 h1;simp only [Option.some.injEq,Prod.mk.injEq] at he;obtain ⟨rfl,rfl⟩:=he;exact Yv hC hcall hout a s s1 (.ext i) h1 σ A H _ hs hK
   ·cases he
 | .seqL a b,s,s',e,he,σ,A,H,K,hs,hK=>by
   simp only [codeE] at he;refine Zpk (K:=fun A H=>ACx ⟨C.P,N,ro⟩ b (toQ K) A H) (fun A H h=>h) ?_;rw [← ZiA];split at he
   ·rename_i s1 h1;exact Yv hC hcall hout a s s1 .nrm h1 σ A H _ hs fun σ1 A1 H1 hx hs1=>Yv hC hcall hout b s1 s' e he σ1 A1 H1 K hs1 fun σ' A' H' hx'=>hK σ' A' H' (hx.trans hx')
   ·rename_i s1 h1;simp only [Option.some.injEq,Prod.mk.injEq] at he;obtain ⟨rfl,rfl⟩:=he;exact Yv hC hcall hout a s s1 .ret h1 σ A H _ hs hK
   ·rename_i i s1 h1;simp only [Option.some.injEq,Prod.mk.injEq] at he;obtain ⟨rfl,rfl⟩:=he;exact Yv hC hcall hout a s s1 (.ext i) h1 σ A H _ hs hK
   ·cases he
 | .cond c a b,s,s',e,he,σ,A,H,K,hs,hK=>by
   simp only [codeE] at he;split at he
   ·rename_i t ht;have hc:=Zax (σ:=σ) (A:=A) hs.t c;rw [ht] at hc;refine Zpl (t:=t) hc ?_;cases t with
    | true=>exact Yv hC hcall hout a s s' e he σ A H K hs hK
    | false=>exact Yv hC hcall hout b s s' e he σ A H K hs hK
   ·cases he
 | .block id a,s,s',e,he,σ,A,H,K,hs,hK=>by
   simp only [codeE] at he;refine ZmX ?_
   have hin:Xh id (toQ K)=toQ (fun e=>match e with | .ext i=>if i=id then K .nrm else K (.ext i) | e=>K e):=by
    funext e
    cases e with
    | exit i=>simp only [Xh,toQ]
    | _=>rfl
   rw [hin];split at he
   ·rename_i s1 h1;simp only [Option.some.injEq,Prod.mk.injEq] at he;obtain ⟨rfl,rfl⟩:=he;exact Yv hC hcall hout a s s1 .nrm h1 σ A H _ hs hK
   ·rename_i s1 h1;simp only [Option.some.injEq,Prod.mk.injEq] at he;obtain ⟨rfl,rfl⟩:=he;exact Yv hC hcall hout a s s1 .ret h1 σ A H _ hs hK
   ·rename_i i s1 h1;refine Yv hC hcall hout a s s1 (.ext i) h1 σ A H _ hs ?_;cases hb:ZpX i id with
    | true =>
      simp only [hb,cond_true,Option.some.injEq,Prod.mk.injEq] at he;obtain ⟨rfl,rfl⟩:=he;dsimp only;rw [if_pos (Zp0 hb)];exact hK
    | false =>
      simp only [hb,cond_false,Option.some.injEq,Prod.mk.injEq] at he;obtain ⟨rfl,rfl⟩:=he;dsimp only;rw [if_neg (fun e=>by rw [e,Nat.beq_refl] at hb; cases hb)];exact hK
   ·cases he
 | .loop a,s,s',e,he,σ,A,H,K,hs,hK=>by
   simp only [codeE] at he;exact Zlv (fun s s' e h=>Yv hC hcall hout a s s' e h) he hs hK
 | .exit id,s,s',e,he,σ,A,H,K,hs,hK=>by
   simp only [codeE,Option.some.injEq,Prod.mk.injEq] at he;obtain ⟨rfl,rfl⟩:=he;exact Zen (Zf9 K) (hK σ A H (Ext.refl σ) hs)
 | .ret,s,s',e,he,σ,A,H,K,hs,hK=>by
   simp only [codeE,Option.some.injEq,Prod.mk.injEq] at he;obtain ⟨rfl,rfl⟩:=he;exact Zen (Zf9 K) (hK σ A H (Ext.refl σ) hs)
 | .scope a,s,s',e,he,σ,A,H,K,hs,hK=>by
   simp only [codeE] at he;exact ZmY (Zf9 K) (Yv hC hcall hout a s s' e he σ A H K hs hK)
 | .rfunc f ps asg bd,s,s',e,he,σ,A,H,K,hs,hK=>by
   simp only [codeE] at he;exact Zkk hC hcall hout he hs hK
 | .bad,s,s',e,he,σ,A,H,K,hs,hK=>by
   simp only [codeE] at he;cases he
end
end Go.PV
end
section
open List renaming length_cons→Zqb,getElem?_cons_succ→ZqF,getElem?_eq_getElem→ZqC,getD_eq_getElem?_getD→ZqW,getElem?_eq_none→ZqS
open Nat renaming ble→Zqc,beq→ZpX,eq_of_beq_eq_true→Zp0,le_of_ble_eq_true→Zqd
namespace Go.PV
def ZfM:List EV→Nat→Tr EV→Option (Tr EV)
 | [],_,t=>some t
 | v::vs,i,t=>match Tr.set 20 t i v with | some t'=>ZfM vs (i+1) t' | none=>none
theorem Zh9:∀ (vs:List EV) (j:Nat) (t t':Tr EV),ZfM vs j t=some t'→∀ i,t'.get i=if j≤i∧i-j<vs.length then vs[i-j]? else t.get i
 | [],j,t,t',h,i=>by
   simp only [ZfM,Option.some.injEq] at h;subst h;simp
 | v::vs,j,t,t',h,i=>by
   simp only [ZfM] at h;split at h
   ·rename_i t1 h1;rw [Zh9 vs (j+1) t1 t' h i,Tr.get_set _ _ _ _ _ h1];by_cases e:i=j
    ·subst e; simp; omega
    ·by_cases hlt:j≤i
     ·have h2:i-j=(i-(j+1))+1:=by omega
      simp only [e,if_false];rw [h2];simp only [Zqb,ZqF];by_cases hc:i-(j+1)<vs.length
      ·rw [if_pos ⟨by omega,hc⟩,if_pos ⟨hlt,by omega⟩]
      ·rw [if_neg (by omega),if_neg (by omega)]
     ·rw [if_neg (by omega),if_neg e,if_neg (by omega)]
   ·cases h
theorem ZgV {σ:Sg} {vs:List EV} {xs:List VV} {t:Tr EV} (hl:RVL σ vs xs) (h:ZfM vs 0 .lf=some t) (i:Nat):RVo σ (t.get i) (xs.getD i ZD):=by
 rw [Zh9 _ _ _ _ h];simp only [Nat.zero_le,true_and,Nat.sub_zero];by_cases hi:i<vs.length
 ·rw [if_pos hi];have hg:vs[i]?=some vs[i]:=ZqC hi;obtain ⟨x,e,hx⟩:=hl.get? i _ hg;rw [hg,ZqW,e];exact hx
 ·rw [if_neg hi,ZqW,ZqS (by rw [hl.length]; omega)];rfl
def ZeW:List Tmp→List EV→Tr EV→Option (Tr EV)
 | p::ps,v::vs,t=>match Tr.set 20 t p v with | some t'=>ZeW ps vs t' | none=>none
 | _,_,t=>some t
theorem ZfA {σ:Sg}:∀ {ps:List Tmp} {vs:List EV} {xs:List VV} {t t':Tr EV} {f:Nat→VV},RVL σ vs xs→(∀ i,RVo σ (t.get i) (f i))→ZeW ps vs t=some t'→∀ i,RVo σ (t'.get i) (Zbp ps xs f i)
 | [],vs,xs,t,t',f,hl,ht,h=>by
   simp only [ZeW,Option.some.injEq] at h;subst h;simpa only [Zbp] using ht
 | p::ps,[],xs,t,t',f,hl,ht,h=>by
   simp only [RVL] at hl;subst hl;simp only [ZeW,Option.some.injEq] at h;subst h;simpa only [Zbp] using ht
 | p::ps,v::vs,xs,t,t',f,hl,ht,h=>by
   obtain ⟨x,xs',rfl,h1,h2⟩:=hl;simp only [ZeW] at h;split at h
   ·rename_i t1 ht1;simp only [Zbp];refine ZfA h2 (fun i=>?_) h;rw [Tr.get_set _ _ _ _ _ ht1];simp only [upd];split
    ·exact h1
    ·exact ht i
   ·cases h
def resE (P:Program) (t:Tr EV) (h:Tr EB):List ResultVar→Option (List EV)
 | []=>some []
 | .tmp i::rs=>(match resE P t h rs with | some vs=>some (evO t (.tmp i)::vs) | none=>none)
 | .cell a ty::rs=>(match t.get a with
   | some (.ptr k o)=>(match loadE P h.get ty (.ptr k o) with
     | some v=>(match resE P t h rs with | some vs=>some (v::vs) | none=>none)
     | none=>none)
   | _=>none)
def tupE:List EV→EV
 | [x]=>x
 | xs=>.tuple xs
theorem Zei {P:Program} {σ:Sg} {t:Tr EV} {h:Tr EB} {A:AF} {H:AH} (ht:∀ i,RVo σ (t.get i) (A.t i)) (hr:HR P σ h H):∀ {rs:List ResultVar} {vs:List EV},resE P t h rs=some vs→∃ xs,YY P A H rs=some xs∧RVL σ vs xs
 | [],vs,he=>by
   simp only [resE,Option.some.injEq] at he;subst he;exact ⟨[],rfl,rfl⟩
 | .tmp i::rs,vs,he=>by
   simp only [resE] at he;split at he
   ·rename_i us hu;simp only [Option.some.injEq] at he;subst he;obtain ⟨xs,h1,h2⟩:=Zei ht hr hu;exact ⟨A.t i::xs,by simp [YY,YX,h1],_,_,rfl,Zax ht (.tmp i),h2⟩
   ·cases he
 | .cell a ty::rs,vs,he=>by
   simp only [resE] at he;split at he
   ·rename_i k o hk;split at he
    ·rename_i v hv;split at he
     ·rename_i us hu;simp only [Option.some.injEq] at he;subst he;obtain ⟨xs,h1,h2⟩:=Zei ht hr hu;have hta:=ht a;rw [hk] at hta;obtain ⟨p,hp,e⟩:=hta
      have hld:Wo P ty (A.t a) H (fun e _=>∃ x,e=.ret x∧RV σ v x∧YX P A H (.cell a ty)=some x):=by
       unfold loadE at hv;split at hv
       ·rename_i n ag hl;dsimp only at hv;split at hv
        ·rename_i e' cs hb;rcases hr.blk k _ hb with hd | ⟨q,B,g1,g2,g3⟩
         ·cases hd
         ·rw [hp] at g1; cases g1;obtain ⟨ys,rfl,hc⟩:=g3;obtain ⟨x,f1,f2⟩:=Zcl (hc.drop o) hv;rw [e];simp only [Wo,hl,ptrV,g2,f1];exact ⟨x,rfl,f2,by simp only [YX,hl,e,ptrV,g2,f1]⟩
        ·rename_i e' s cs hb;rcases hr.blk k _ hb with hd | ⟨q,B,g1,g2,g3⟩
         ·cases hd
         ·rw [hp] at g1; cases g1;obtain ⟨ys,sp,rfl,hc,_⟩:=g3;obtain ⟨x,f1,f2⟩:=Zcl (hc.drop o) hv;rw [e];simp only [Wo,hl,ptrV,g2,f1];exact ⟨x,rfl,f2,by simp only [YX,hl,e,ptrV,g2,f1]⟩
        ·cases hv
       ·cases hv
      have:∃ x,RV σ v x∧YX P A H (.cell a ty)=some x:=by
       rw [e] at hld;simp only [Wo,ptrV] at hld;split at hld
       ·rename_i e1; cases e1
       ·split at hld
        ·split at hld
         ·obtain ⟨x,_,f2,f3⟩:=hld; exact ⟨x,f2,f3⟩
         ·exact hld.elim
        ·exact hld.elim
       ·exact hld.elim
      obtain ⟨x,f2,f3⟩:=this;exact ⟨x::xs,by simp [YY,f3,h1],_,_,rfl,f2,h2⟩
     ·cases he
    ·cases he
   ·cases he
theorem Zpm {σ:Sg} {vs:List EV} {xs:List VV} (h:RVL σ vs xs):RV σ (tupE vs) (tupV xs):=by
 match vs,h with
 | [],h=>simp only [RVL] at h; subst h; exact ⟨[],rfl,rfl⟩
 | [v],h=>obtain ⟨y,ys,rfl,h1,h2⟩:=h; simp only [RVL] at h2; subst h2; exact h1
 | v::u::vs,h =>
   have h0:=h;obtain ⟨y,ys,rfl,h1,h2⟩:=h;obtain ⟨z,zs,rfl,h3,h4⟩:=h2;exact ⟨_,rfl,h0⟩
def mvE (o:GOp) (t:Tr EV):Option (Tr EV) :=
 match o.op with
 | .move x=>(match o.dst with | none=>some t | some d=>Tr.set 20 t d (evO t x))
 | .assign x=>(match o.dst with | none=>some t | some d=>Tr.set 20 t d (evO t x))
 | _=>none
def mvsE:List GOp→Tr EV→Option (Tr EV)
 | [],t=>some t
 | o::l,t=>match mvE o t with | some t'=>mvsE l t' | none=>none
theorem ZjW {σ:Sg}:∀ {l:List GOp} {t t':Tr EV} {A:AF},(∀ i,RVo σ (t.get i) (A.t i))→mvsE l t=some t'→(∀ i,RVo σ (t'.get i) ((mvs l A).t i))∧(mvs l A).d=A.d
 | [],t,t',A,ht,he=>by
   simp only [mvsE,Option.some.injEq] at he;subst he;exact ⟨ht,rfl⟩
 | o::l,t,t',A,ht,he=>by
   simp only [mvsE] at he;split at he
   ·rename_i t1 h1
    have hA:(∀ i,RVo σ (t1.get i) ((mvV A o).t i))∧(mvV A o).d=A.d:=by
     have key:∀ x,(match o.dst with | none=>some t | some d=>Tr.set 20 t d (evO t x))=some t1→(∀ i,RVo σ (t1.get i) ((A.put o.dst (A.eval x)).t i))∧(A.put o.dst (A.eval x)).d=A.d:=by
      intro x hx;split at hx
      ·rename_i e;simp only [Option.some.injEq] at hx;subst hx;rw [e];exact ⟨ht,rfl⟩
      ·rename_i d e;rw [e];refine ⟨fun i=>?_,rfl⟩;rw [Tr.get_set _ _ _ _ _ hx];simp only [AF.put,upd];split
       ·exact Zax ht x
       ·exact ht i
     unfold mvE at h1;unfold mvV;split at h1
     ·rename_i e; simp only [e]; exact key _ h1
     ·rename_i e; simp only [e]; exact key _ h1
     ·cases h1
    obtain ⟨g1,g2⟩:=ZjW hA.1 he;exact ⟨g1,g2.trans hA.2⟩
   ·cases he
def recE (N:Nat):ACode→Option (Tmp × List GOp × ACode)
 | .seq (.reg (⟨some d,.call { callee:=.builtin .recover,args,argTypes },none⟩::l)) a=>(match args.toList with | []=>cond (l.all fun o=>cond (isMv o) (dOkB N o.dst) false) (some (d,l,a)) none | _=>none)
 | _=>none
theorem Zpn {N:Nat} {a a':ACode} {d:Tmp} {l:List GOp} (h:recE N a=some (d,l,a')):(∃ ts,a=.seq (.reg (⟨some d,.call { callee:=.builtin .recover,args:=#[],argTypes:=ts },none⟩::l)) a')∧∀ o∈l,isMv o=true∧dOk N o.dst:=by
 unfold recE at h;split at h
 ·rename_i d' args ts l1 a1;split at h
  ·rename_i e;have hq:=condS h;clear h;obtain ⟨hc,h⟩:=hq;simp only [Option.some.injEq,Prod.mk.injEq] at h;obtain ⟨rfl,rfl,rfl⟩:=h
   have:args=#[]:=Array.toList_inj.1 (by rw [e])
   subst this;refine ⟨⟨ts,rfl⟩,fun o ho=>?_⟩;rw [List.all_eq_true] at hc;obtain ⟨h1,h2⟩:=cond3 (hc o ho);exact ⟨h1,Zcm h2⟩
  ·cases h
 ·cases h
def dfunE (C:Cfg) (call:CallF) (lim:Nat) (f:FuncId) (xs:List EV) (h:Tr EB) (nx:Nat):Option (Tr EB × Nat) :=
 match C.ft f with
 | some (N,rs,a)=>cond (Zqc xs.length N) (match ZfM xs 0 .lf with
   | some t=>(match (match recE N a with
      | some (d,l,a')=>cond (Zqc (d+1) N) (match Tr.set 20 t d (.lit .nilIface) with
        | some t1=>(match mvsE l t1 with | some t2=>codeE C call lim N true a' ⟨t2,[],h,nx⟩ | none=>none)
        | none=>none) none
      | none=>codeE C call lim N true a ⟨t,[],h,nx⟩) with
     | some (e,s)=>(match e with
       | .ext _=>none
       | _=>(match s.d with
         | []=>(match resE C.P s.t s.h rs with | some _=>some (s.h,s.nx) | none=>none)
         | _=>none))
     | none=>none)
   | none=>none) none
 | none=>none
def ZfN (C:Cfg) (call:CallF) (lim:Nat) (rs:List ResultVar) (t:Tr EV):List ED→Tr EB→Nat→Option HN
 | [],h,nx=>(match resE C.P t h rs with | some vs=>some (tupE vs,h,nx) | none=>none)
 | .mark k::ds,h,nx=>(match h.get k with
   | some .deferred=>(match Tr.set 40 h k .dead with | some h'=>ZfN C call lim rs t ds h' nx | none=>none)
   | _=>none)
 | .fn f args cap::ds,h,nx=>(match dfunE C call lim f (args++cap) h nx with
   | some (h',nx')=>ZfN C call lim rs t ds h' nx'
   | none=>none)
def Zk4:List (FuncId × List EV × EV)→FuncId→List EV→Option EV
 | [],_,_=>none
 | (g',ys,v)::l,g,xs=>cond (cond (ZpX g' g) (beqEL ys xs) false) (some v) (Zk4 l g xs)
theorem Zia:∀ {l:List (FuncId × List EV × EV)} {g:FuncId} {xs:List EV} {v:EV},Zk4 l g xs=some v→(g,xs,v)∈l
 | [],g,xs,v,h=>by cases h
 | (g',ys,u)::l,g,xs,v,h=>by
   simp only [Zk4] at h;rcases condC h with ⟨hc,hv⟩ | ⟨_,hv⟩
   ·obtain ⟨h1,h2⟩:=cond3 hc;clear h hc;obtain rfl:=Zp0 h1;obtain rfl:=XL _ _ h2;cases hv;exact List.mem_cons_self ..
   ·exact List.mem_cons_of_mem _ (Zia hv)
def funE (C:Cfg) (call:CallF) (lim:Nat) (g:FuncId) (xs:List EV) (h:Tr EB) (nx:Nat):Option HN :=
 match Zk4 C.mm g xs with
 | some v=>some (v,h,nx)
 | none =>
 match C.ft g with
 | some (N,rs,a)=>cond (Zqc xs.length N) (match ZfM xs 0 .lf with
   | some t=>(match codeE C call lim N true a ⟨t,[],h,nx⟩ with
     | some (e,s)=>(match e with
       | .ext _=>none
       | _=>ZfN C call lim rs s.t s.d s.h s.nx)
     | none=>none)
   | none=>none) none
 | none=>none
def ZnH (C:Cfg) (call:CallF) (lim:Nat) (k:Nat) (xs:List EV) (h:Tr EB) (nx:Nat):Option HN :=
 match h.get k with
 | some (.loop .ready _ N t ps asg bd r)=>cond (cond (ZpX xs.length ps.size) (ps.toList.all fun p=>Zqc (p+1) N) false) (match ZeW ps.toList xs t with
   | some t1=>(match codeE C call lim N false asg ⟨t1,[],h,nx⟩ with
     | some (.nrm,s1)=>(match s1.h.get k with
       | some (.loop .ready _ N1 _ ps1 _ _ r1)=>cond (sameL N N1 ps ps1 r r1) (match Tr.set 40 s1.h k (.loop .busy none N t ps asg bd r) with
         | some h2=>(match codeE C call lim N false bd { s1 with h:=h2 } with
           | some (e,s2)=>(match s2.h.get k with
             | some (.loop .busy _ N2 _ ps2 _ _ r2)=>cond (sameL N N2 ps ps2 r r2) (match e with
               | .nrm=>(match Tr.set 40 s2.h k (.loop .ready none N t ps asg bd r) with | some h3=>some (.lit (.bool true),h3,s2.nx) | none=>none)
               | .ret=>(match Tr.set 40 s2.h k (.loop .done (some none) N t ps asg bd r) with | some h3=>some (.lit (.bool false),h3,s2.nx) | none=>none)
               | .ext i=>(match Tr.set 40 s2.h k (.loop .done (some (some i)) N t ps asg bd r) with | some h3=>some (.lit (.bool false),h3,s2.nx) | none=>none)) none
             | _=>none)
           | none=>none)
         | none=>none) none
       | _=>none)
     | _=>none)
   | none=>none) none
 | _=>none
def callE (C:Cfg) (lim:Nat):Nat→CallF
 | 0=>fun _ _ _ _=>none
 | n+1=>fun f xs h nx=>match f with
   | .func g first cap=>funE C (callE C lim n) lim g (first++xs++cap) h nx
   | .lit (.func (.func g) a b)=>funE C (callE C lim n) lim g (a.toList.map .lit++xs++b.toList.map .lit) h nx
   | .yield k=>ZnH C (callE C lim n) lim k xs h nx
   | _=>none
section
variable {C:Cfg} {call:CallF} {lim:Nat}
theorem Zlx (hC:CfgOk C) (hcall:Zas C call) {f:FuncId} {xs:List EV} {h h':Tr EB} {nx nx':Nat} (he:dfunE C call lim f xs h nx=some (h',nx')) {σ:Sg} {ys:List VV} {H:AH} {K:VE→FrameMode→AH→Prop} (hr:HR C.P σ h H) (hl:RVL σ xs ys)
 (hK:∀ σ' H' x,Ext σ σ'→HR C.P σ' h' H'→K (.ret x) .returning H'):ZF C.P f=true∧Zbq C.P f ys .returning H K:=by
 unfold dfunE at he;split at he
 ·rename_i N rs a hf;obtain ⟨hd,hen⟩:=hC.ft f N rs a hf;have hq:=condS he;clear he;obtain ⟨hc,he⟩:=hq;have hN:ys.length≤N:=by rw [hl.length]; exact Zqd hc
  refine ⟨hen,?_⟩;split at he
  ·rename_i t ht;have hfr:=ZgV hl ht;split at he
   ·rename_i e s hrun
    have fin:∀ e',(e'=Ex.nrm∨e'=Ex.ret)→e=e'→∀ σ' A' H',Ext σ σ'→RA C.P σ' s A' H'→A'.d=[]∧∃ x H'' x',resV C.P rs A' H'=some x∧GhV H' x H'' x'∧K (.ret x') .returning H'':=by
     rintro e' he' rfl σ' A' H' hx hra
     have he2:(match s.d with | []=>(match resE C.P s.t s.h rs with | some _=>some (s.h,s.nx) | none=>none) | _=>none)=some (h',nx'):=by
      rcases he' with rfl | rfl<;>exact he
     split at he2
     ·rename_i hd0;split at he2
      ·rename_i vs hv;simp only [Option.some.injEq,Prod.mk.injEq] at he2;obtain ⟨rfl,rfl⟩:=he2;have hdd:=hra.d;rw [hd0] at hdd;obtain ⟨zs,g1,g2⟩:=Zei hra.t hra.h hv;exact ⟨hdd,tupV zs,H',tupV zs,by simp [resV,g1],GhV.refl _ _,hK σ' H' _ hx hra.h⟩
      ·cases he2
     ·cases he2
    have fin':∀ σ' A' H',Ext σ σ'→RA C.P σ' s A' H'→(match e with | .ext _=>fun (A':AF) (H':AH)=>False | _=>fun A' H'=>A'.d=[]∧∃ x H'' x',resV C.P rs A' H'=some x∧GhV H' x H'' x'∧K (.ret x') .returning H'') A' H':=by
     intro σ' A' H' hx hra;cases e with
     | nrm=>exact fin .nrm (.inl rfl) rfl σ' A' H' hx hra
     | ret=>exact fin .ret (.inr rfl) rfl σ' A' H' hx hra
     | ext i=>cases he
    have mono:∀ e' A' H',toQ (fun e=>match e with | .ext _=>fun (A':AF) (H':AH)=>False | _=>fun A' H'=>A'.d=[]∧∃ x H'' x',resV C.P rs A' H'=some x∧GhV H' x H'' x'∧K (.ret x') .returning H'') e' A' H'→ZfZ C.P rs .returning K e' A' H':=by
     intro e' A' H' hq;cases e' with
     | normal=>exact hq
     | ret=>exact hq
     | exit i=>exact hq.elim
     | goto l=>exact hq.elim
     | panic ch=>exact hq.elim
     | outgrown=>exact hq.elim
    split at hrun
    ·rename_i d l a' hrec;obtain ⟨⟨ts,ea⟩,hmv⟩:=Zpn hrec;have hq:=condS hrun;clear hrun;obtain ⟨hdN,hrun⟩:=hq;split at hrun
     ·rename_i t1 ht1;split at hrun
      ·rename_i t2 ht2;rw [ea] at hd;refine ZaR hd hmv hN (Zqd hdN) (ZiB ?_ mono)
       have ht1r:∀ i,RVo σ (t1.get i) (upd (fun i=>ys.getD i ZD) d (.lit .nilIface) i):=fun i=>by
        rw [Tr.get_set _ _ _ _ _ ht1];simp only [upd];split
        ·rfl
        ·exact hfr i
       obtain ⟨g1,g2⟩:=ZjW (A:=⟨upd (fun i=>ys.getD i ZD) d (.lit .nilIface),[]⟩) ht1r ht2;exact Yv (ro:=none) hC hcall (fun _=>rfl) a' _ _ e hrun σ _ H _ ⟨g1,by show RDL σ [] _; exact g2,hr⟩ fin'
      ·cases hrun
     ·cases hrun
    ·exact Zeu hd hN (ZiB (Yv (ro:=none) hC hcall (fun _=>rfl) a _ _ e hrun σ _ H _ ⟨hfr,rfl,hr⟩ fin') mono)
   ·cases he
  ·cases he
 ·cases he
theorem Zbd (hC:CfgOk C) (hcall:Zas C call) {rs:List ResultVar} {t:Tr EV} {K:VE→AH→Prop}:∀ (es:List ED) (h:Tr EB) (nx:Nat) (v:EV) (h':Tr EB) (nx':Nat),ZfN C call lim rs t es h nx=some (v,h',nx') →
 ∀ (σ:Sg) (ds:List Deferred) (tt:Nat→VV) (H:AH),(∀ i,RVo σ (t.get i) (tt i))→RDL σ es ds→HR C.P σ h H→EK C.P σ v h' K→WL C.P rs K tt ds .returning H
 | [],h,nx,v,h',nx',he,σ,ds,tt,H,ht,hd,hr,hK=>by
   simp only [ZfN] at he;split at he
   ·rename_i vs hv;simp only [Option.some.injEq,Prod.mk.injEq] at he;obtain ⟨rfl,rfl,_⟩:=he;simp only [RDL] at hd;subst hd;obtain ⟨xs,g1,g2⟩:=Zei (A:=⟨tt,[]⟩) ht hr hv;exact ⟨tupV xs,H,tupV xs,by simp [resV,g1],GhV.refl _ _,hK σ H _ (Ext.refl σ) hr (Zpm g2)⟩
   ·cases he
 | .mark k::es,h,nx,v,h',nx',he,σ,ds,tt,H,ht,hd,hr,hK=>by
   simp only [ZfN] at he;split at he
   ·rename_i hk;split at he
    ·rename_i h1 hs1;obtain ⟨d,ds',rfl,⟨p,hp,rfl⟩,h2⟩:=hd;rcases hr.blk k _ hk with hdd | ⟨q,B,g1,g2,g3⟩
     ·cases hdd
     ·rw [hp] at g1; cases g1;have g3':B=.obj (.deferred (some [])):=g3;subst g3';refine ⟨by simp,g2,?_⟩;exact Zbd hC hcall es h1 nx v h' nx' he σ ds' tt _ ht h2 (hr.kill hk rfl hp hs1) hK
    ·cases he
   ·cases he
 | .fn f args cap::es,h,nx,v,h',nx',he,σ,ds,tt,H,ht,hd,hr,hK=>by
   simp only [ZfN] at he;split at he
   ·rename_i h1 nx1 hdf;obtain ⟨d,ds',rfl,⟨asg,cs,rfl,h1a,h1c⟩,h2⟩:=hd
    have hl:RVL σ (args++cap) ((asg.toArray++cs.toArray).toList.map .lit):=by
     simp only [Array.toList_append,List.map_append];exact h1a.append h1c
    obtain ⟨hen,hdc⟩:=Zlx (K:=fun e u' H'=>match e with | .ret _=>WL C.P rs K tt ds' (settle u') H' | .pan ch=>WL C.P rs K tt ds' (raised u' ch) H') hC hcall hdf hr hl
     fun σ' H' x hx hr'=>Zbd hC hcall es h1 nx1 v h' nx' he σ' ds' tt H' (fun i=>(ht i).mono hx) (h2.mono hx) hr' fun σ'' H'' y hx'=>hK σ'' H'' y (hx.trans hx')
    exact ⟨by simp,hen,_,H,GhL.refl _ _,hdc⟩
   ·cases he
theorem Zib (hC:CfgOk C) (hcall:Zas C call) {g:FuncId} {xs:List EV} {h h':Tr EB} {nx nx':Nat} {v:EV} (he:funE C call lim g xs h nx=some (v,h',nx')) {σ:Sg} {ys:List VV} {H:AH} {K:VE→AH→Prop} (hr:HR C.P σ h H) (hl:RVL σ xs ys)
 (hK:EK C.P σ v h' K):ZF C.P g=true∧ZT C.P g ys H K:=by
 unfold funE at he;split at he
 ·rename_i u hu;simp only [Option.some.injEq,Prod.mk.injEq] at he;obtain ⟨rfl,rfl,_⟩:=he;obtain ⟨m1,m2,m3,m4⟩:=hC.mm _ _ _ (Zia hu);obtain rfl:=RVL.vv_eq m2 hl;refine ⟨m1,(m4 H).mono ?_⟩;rintro e H' ⟨rfl,rfl⟩;exact hK σ H' _ (Ext.refl σ) hr (RV.vv u m3)
 rename_i hnm;clear hnm;split at he
 ·rename_i N rs a hf;obtain ⟨hd,hen⟩:=hC.ft g N rs a hf;have hq:=condS he;clear he;obtain ⟨hc,he⟩:=hq;have hN:ys.length≤N:=by rw [hl.length]; exact Zqd hc
  refine ⟨hen,?_⟩;split at he
  ·rename_i t ht;split at he
   ·rename_i e s hrun;refine Zdj hd hN (ZiB (Yv (ro:=none) hC hcall (fun _=>rfl) a _ _ e hrun σ _ H (fun e=>match e with | .ext _=>fun (A':AF) (H':AH)=>False | _=>fun A' H'=>WL C.P rs K A'.t A'.d .returning H') ⟨ZgV hl ht,rfl,hr⟩ ?_) ?_)
    ·intro σ' A' H' hx hra;cases e with
     | nrm=>exact Zbd hC hcall _ _ _ _ _ _ he σ' A'.d A'.t H' hra.t hra.d hra.h fun σ'' H'' y hx'=>hK σ'' H'' y (hx.trans hx')
     | ret=>exact Zbd hC hcall _ _ _ _ _ _ he σ' A'.d A'.t H' hra.t hra.d hra.h fun σ'' H'' y hx'=>hK σ'' H'' y (hx.trans hx')
     | ext i=>cases he
    ·intro e' A' H' hq;cases e' with
     | normal=>exact hq
     | ret=>exact hq
     | exit i=>exact hq.elim
     | goto l=>exact hq.elim
     | panic ch=>exact hq.elim
     | outgrown=>exact hq.elim
   ·cases he
  ·cases he
 ·cases he
theorem Zkl (hC:CfgOk C) (hcall:Zas C call) {k:Nat} {xs:List EV} {h h':Tr EB} {nx nx':Nat} {v:EV} (he:ZnH C call lim k xs h nx=some (v,h',nx')) {σ:Sg} {ys:List VV} {H:AH} {K:VE→AH→Prop} {p:Pay} {ro:Option Nat} (hp:σ k=some p) (hr:HR C.P σ h H) (hl:RVL σ xs ys)
 (hK:EK C.P σ v h' K):ACall C.P ro (.lit (.func (.yield p.r) #[] #[])) ys H K:=by
 unfold ZnH at he;split at he
 ·rename_i j N t ps asg bd r hk;have hq:=condS he;clear he;obtain ⟨hc,he⟩:=hq;obtain ⟨hc1,hc2⟩:=cond3 hc;rcases hr.blk k _ hk with hdd | ⟨q,B,g1,g2,g3⟩
  ·cases hdd
  ·rw [hp] at g1; cases g1;obtain ⟨pe,qr,rfl,f1,f2,f3,f4,f5,f6⟩:=g3;split at he
   ·rename_i t1 ht1;split at he
    ·rename_i s1 hrun1;split at he
     ·rename_i j1 N1 t1' ps1 as1 bd1 r1 hk1;have hq:=condS he;clear he;obtain ⟨hsame1,he⟩:=hq;obtain ⟨rfl,rfl,rfl⟩:=Zdw hsame1;split at he
      ·rename_i h2 hs2;split at he
       ·rename_i e s2 hrun2;split at he
        ·rename_i j2 N2 t2' ps2 as2 bd2 r2 hk2;have hq:=condS he;clear he;obtain ⟨hsame2,he⟩:=hq;obtain ⟨rfl,rfl,rfl⟩:=Zdw hsame2;refine ZbS (pe:=pe) g2 (by rw [hl.length]; exact Zp0 hc1) (fun i hi=>?_) f5 ?_
         ·rw [List.all_eq_true] at hc2;exact Zqd (hc2 i hi)
         ·have hA:∀ σ1 A1 H1,Ext σ σ1→RA C.P σ1 s1 A1 H1→(∃ pe,H1 p.r=some (.loop .ready pe p.fn N2 p.t ps2 p.ca p.cb qr.r))∧∀ pe,AC ⟨C.P,N2,some p.r⟩ p.cb (Znm p.r p.fn N2 p.t ps2 p.ca p.cb qr.r K) A1 (H1.set p.r (.loop .busy pe p.fn N2 p.t ps2 p.ca p.cb qr.r)):=by
           intro σ1 A1 H1 hx1 hra1;rcases hra1.h.blk k _ hk1 with hdd | ⟨q1,B1,e1,e2,e3⟩
           ·cases hdd
           ·rw [hx1 _ _ hp] at e1; cases e1;obtain ⟨pe1,qr1,rfl,i1,_⟩:=e3;rw [hx1 _ _ f1] at i1; cases i1;refine ⟨⟨pe1,e2⟩,fun pe'=>?_⟩
            have hr2:=hra1.h.upd (b:=.loop .busy none N2 t ps2 asg bd r2) (B:=.loop .busy pe' p.fn N2 p.t ps2 p.ca p.cb qr.r) hk1 rfl (hx1 _ _ hp) hs2
             ⟨pe',qr,rfl,hx1 _ _ f1,fun h=>absurd rfl h,f3,f4,f5,fun i=>(f6 i).mono hx1⟩
            have hbody:=Yv (ro:=some p.r) hC hcall (fun h=>by cases h) bd _ _ e hrun2 σ1 A1 _ (fun e=>match e with
             | .nrm=>fun _ H=>(∃ pe,H p.r=some (.loop .busy pe p.fn N2 p.t ps2 p.ca p.cb qr.r))∧K (.ret (boolV true)) (H.set p.r (.loop .ready none p.fn N2 p.t ps2 p.ca p.cb qr.r))
             | .ret=>fun _ H=>(∃ pe,H p.r=some (.loop .busy pe p.fn N2 p.t ps2 p.ca p.cb qr.r))∧K (.ret (boolV false)) (H.set p.r (.loop .done (some .ret) p.fn N2 p.t ps2 p.ca p.cb qr.r))
             | .ext id=>fun _ H=>(∃ pe,H p.r=some (.loop .busy pe p.fn N2 p.t ps2 p.ca p.cb qr.r))∧K (.ret (boolV false)) (H.set p.r (.loop .done (some (.exit id)) p.fn N2 p.t ps2 p.ca p.cb qr.r))) ⟨hra1.t,hra1.d,hr2⟩ ?_
            ·refine AC.mono (hbody p.cb f4) ?_;intro e' A' H' hq;cases e' with
             | normal=>exact hq
             | ret=>exact hq
             | exit i=>exact hq
             | goto l=>exact hq.elim
             | panic ch=>exact hq.elim
             | outgrown=>exact hq.elim
            ·intro σ2 A2 H2 hx2 hra2;have hx:=hx1.trans hx2;rcases hra2.h.blk k _ hk2 with hdd | ⟨q2,B2,e1,e2',e3⟩
             ·cases hdd
             ·rw [hx _ _ hp] at e1; cases e1;obtain ⟨pe2,qr2,rfl,i1,_⟩:=e3;rw [hx _ _ f1] at i1; cases i1;cases e with
              | nrm =>
                dsimp only at he;split at he
                ·rename_i h3 hs3;simp only [Option.some.injEq,Prod.mk.injEq] at he;obtain ⟨rfl,rfl,_⟩:=he;exact ⟨⟨pe2,e2'⟩,hK σ2 _ _ hx (hra2.h.upd (B:=.loop .ready none p.fn N2 p.t ps2 p.ca p.cb qr.r) hk2 rfl (hx _ _ hp) hs3 ⟨none,qr,rfl,hx _ _ f1,fun _=>rfl,f3,f4,f5,fun i=>(f6 i).mono hx⟩) rfl⟩
                ·cases he
              | ret =>
                dsimp only at he;split at he
                ·rename_i h3 hs3;simp only [Option.some.injEq,Prod.mk.injEq] at he;obtain ⟨rfl,rfl,_⟩:=he;exact ⟨⟨pe2,e2'⟩,hK σ2 _ _ hx (hra2.h.upd (B:=.loop .done (some .ret) p.fn N2 p.t ps2 p.ca p.cb qr.r) hk2 rfl (hx _ _ hp) hs3 ⟨some .ret,qr,rfl,hx _ _ f1,fun _=>rfl,f3,f4,f5,fun i=>(f6 i).mono hx⟩) rfl⟩
                ·cases he
              | ext id =>
                dsimp only at he;split at he
                ·rename_i h3 hs3;simp only [Option.some.injEq,Prod.mk.injEq] at he;obtain ⟨rfl,rfl,_⟩:=he;exact ⟨⟨pe2,e2'⟩,hK σ2 _ _ hx (hra2.h.upd (B:=.loop .done (some (.exit id)) p.fn N2 p.t ps2 p.ca p.cb qr.r) hk2 rfl (hx _ _ hp) hs3 ⟨some (.exit id),qr,rfl,hx _ _ f1,fun _=>rfl,f3,f4,f5,fun i=>(f6 i).mono hx⟩) rfl⟩
                ·cases he
          have hass:=Yv (ro:=some p.r) hC hcall (fun h=>by cases h) asg _ _ .nrm hrun1 σ ⟨Zbp ps2.toList ys p.t,[]⟩ H (onN (fun _ _ _=>False) (fun A1 H1=>(∃ pe,H1 p.r=some (.loop .ready pe p.fn N2 p.t ps2 p.ca p.cb qr.r))∧∀ pe,AC ⟨C.P,N2,some p.r⟩ p.cb (Znm p.r p.fn N2 p.t ps2 p.ca p.cb qr.r K) A1 (H1.set p.r (.loop .busy pe p.fn N2 p.t ps2 p.ca p.cb qr.r))))
           ⟨ZfA hl f6 ht1,rfl,hr⟩ hA
          refine AC.mono (hass p.ca f3) ?_;intro e' A' H' hq;cases e' with
          | normal=>exact hq
          | ret=>exact hq.elim
          | exit i=>exact hq.elim
          | goto l=>exact hq.elim
          | panic ch=>exact hq.elim
          | outgrown=>exact hq.elim
        ·cases he
       ·cases he
      ·cases he
     ·cases he
    ·cases he
   ·cases he
 ·cases he
theorem ZiC (hC:CfgOk C) (lim:Nat):∀ n,Zas C (callE C lim n)
 | 0=>fun f xs h nx v h' nx' he=>by simp only [callE] at he; cases he
 | n+1=>fun f xs h nx v h' nx' he σ H f' xs' ro K hr hf hl hK=>by
   simp only [callE] at he;have ih:=ZiC hC lim n;split at he
   ·rename_i g first cap;obtain ⟨asg,bs,rfl,h1,h2⟩:=hf;exact Zib hC ih he hr ((h1.append hl).append h2) hK
   ·rename_i g a b;obtain rfl:=hf;exact Zib hC ih he hr (((RVL.lits _).append hl).append (RVL.lits _)) hK
   ·rename_i k;obtain ⟨p,hp,rfl⟩:=hf;exact Zkl (ro:=ro) hC ih he hp hr hl hK
   ·cases he
theorem ZfB {P:Program} {f:FuncId} {xs:List VV} {X:VV} (h:ZT P f xs AH.nil (fun e H'=>∃ x H'',e=.ret x∧GhV H' x H'' X)):PureF P f xs X:=by
 intro H S w args hs hx;have hs0:=hs.sub (SubH.nil H);refine CallsIn.mono (h S w args hs0.1 hx) ?_;intro e w' hq;cases e with
 | returned u =>
   obtain ⟨S0,H0,x,j1,j2,j3,x',H1,e,hg⟩:=hq;cases e;obtain ⟨S',q1,q2,k3⟩:=hg S0 w' u j2 j3;have k1:=j1.trans q1;have hfr:∀ r,r<w.heap.size→w'.heap[r]?=w.heap[r]?:=fun r hr=>k1.fr r hr rfl
   have hS':∀ r,S' r→S r∨w.heap.size≤r:=fun r hr=>by
    rcases k1.snew r hr with h | h | h
    ·exact .inl h
    ·exact absurd rfl h
    ·exact .inr h
   refine ⟨fun r=>S r∨S' r,H,X,⟨k1.os,k1.tape,k1.output,k1.size,fun _ h=>.inl h,fun r hr _=>hfr r hr,fun r hr=>.inl hr,fun r h=>h.elim .inl fun h=>(hS' r h).elim .inl fun h=>.inr (.inr h)⟩,⟨fun r b hb=>?_,fun r b hb hsr=>?_,fun r hr=>?_⟩,?_,rfl,rfl⟩
   ·exact (hs.blk r b hb).mono (fun i hi=>⟨.inl hi,hfr i (hs.lt i hi)⟩) (hfr r (hs.lt_of hb))
   ·rcases hsr with h | h
    ·exact hs.dis r b hb h
    ·rcases hS' r h with h | h
     ·exact hs.dis r b hb h
     ·have:=hs.lt_of hb; omega
   ·rcases hr with h | h
    ·exact Nat.lt_of_lt_of_le (hs.lt r h) k1.size
    ·exact q2.lt r h
   ·exact Rv.mono (fun r h=>⟨.inr h,rfl⟩) _ _ k3
 | panicked ch=>obtain ⟨S',H',k1,k2,x,H1,k3,_⟩:=hq; cases k3
 | outgrown=>exact hq.elim
def Zoz (r:Option HN) (w:EV):Bool:=match r with | some (v,h,_)=>(match Xd v h with | some (u,_)=>beqEV u w | none=>false) | none=>false
theorem ZgD (hC:CfgOk C) (f:FuncId) (xs:List EV) (w:EV) (lim n:Nat) (hxs:XC xs=true) (h:Zoz (callE C lim n (.lit (.func (.func f) #[] #[])) xs .lf 0) w=true):ZF C.P f=true∧XC xs=true∧w.closedB=true∧PureF C.P f (vvL xs) w.vv:=by
 unfold Zoz at h;split at h
 ·rename_i v h' nx' he;split at h
  ·rename_i u h2 hfz;obtain rfl:=ZaP _ _ h;have hnil:HR C.P (fun _=>none) .lf AH.nil:=⟨fun k b hb=>(by simp [Tr.get] at hb),fun k k' b b' p p' hb=>(by simp [Tr.get] at hb),fun _ _=>rfl⟩
   have:=ZiC hC lim n _ _ _ _ _ _ _ he (fun _=>none) AH.nil (.lit (.func (.func f) #[] #[])) (vvL xs) none (fun e H'=>∃ x H'',e=.ret x∧GhV H' x H'' u.vv∧u.closedB=true)
    hnil rfl (RVL.vv xs hxs) (fun σ' H' x _ hr hx=>by
     obtain ⟨H2,g1,_,g3⟩:=ZeT v h' u h2 hfz H' x hr hx;exact ⟨x,H2,rfl,g1,g3⟩)
   rw [XF] at this;have hcl:u.closedB=true:=(Zdn _ _ _ _ hfz)
   exact ⟨this.1,hxs,hcl,ZfB (this.2.mono fun e H' ⟨x,H'',e1,g,_⟩=>⟨x,H'',e1,g⟩)⟩
  ·cases h
 ·cases h
def trueB (r:Option HN):Bool:=match r with | some (.lit (.bool true),_,_)=>true | _=>false
theorem reckoned (hC:CfgOk C) (f:FuncId) (lim n:Nat) (h:trueB (callE C lim n (.lit (.func (.func f) #[] #[])) [] .lf 0)=true):PureF C.P f [] (boolV true):=by
 unfold trueB at h;split at h
 ·rename_i h' nx' he
  have:=ZiC hC lim n _ _ _ _ _ _ _ he (fun _=>none) AH.nil (.lit (.func (.func f) #[] #[])) [] none (fun e H'=>∃ x H'',e=.ret x∧GhV H' x H'' (boolV true))
   ⟨fun k b hb=>(by simp [Tr.get] at hb),fun k k' b b' p p' hb=>(by simp [Tr.get] at hb),fun _ _=>rfl⟩ rfl rfl (fun σ' H' x _ _ hx=>⟨x,H',rfl,by rw [show x=_ from hx]; exact GhV.refl _ _⟩)
  rw [XF] at this;exact ZfB this.2
 ·cases h
end
end Go.PV
end
section
open Nat renaming ble→Zqc
namespace Go.PV
def ofT {α:Type}:List (Nat × α)→Tr α→Tr α
 | [],t=>t
 | (k,x)::l,t=>match Tr.set 20 t k x with
   | some t'=>ofT l t'
   | none=>ofT l t
theorem ZiD {α:Type}:∀ (l:List (Nat × α)) (t:Tr α) {f:Nat} {x:α},(ofT l t).get f=some x→(f,x)∈l∨t.get f=some x
 | [],t,f,x,h=>.inr h
 | (k,y)::l,t,f,x,h=>by
   simp only [ofT] at h;split at h
   ·rename_i t' ht;rcases ZiD l t' h with h1 | h1
    ·exact .inl (List.mem_cons_of_mem _ h1)
    ·rw [Tr.get_set _ _ _ _ _ ht] at h1;split at h1
     ·rename_i e; cases h1; subst e; exact .inl (List.mem_cons_self ..)
     ·exact .inr h1
   ·rcases ZiD l t h with h1 | h1
    ·exact .inl (List.mem_cons_of_mem _ h1)
    ·exact .inr h1
theorem ofT_get {α:Type} {f:Nat} {x:α} (l:List (Nat × α)) (t:Tr α) (h:(ofT l .lf).get f=some x):(f,x)∈l:=by
 rcases ZiD l .lf h with h | h
 ·exact h
 ·simp [Tr.get] at h
def methB (P:Program) (t:TypeId) (name:String):Option (Bool × Option (FuncId × Bool)) :=
 match P.info? t with
 | some i=>(match i.methods.find? (·.name == name) with | some m=>some (m.path.toList.isEmpty,m.func) | none=>none)
 | none=>none
def notPtr (P:Program) (t:TypeId):Bool:=match P.underlying t with | some (.pointer _)=>false | some _=>true | none=>false
theorem Zbf {P:Program} {t:TypeId} {name:String} {f:FuncId} {fuel:Nat} (hn:Zqc 1 fuel=true) (hm:methB P t name=some (true,some (f,false))) (hu:notPtr P t=true) (z:Value) (w:World) :
 (method fuel t z name).run P w=.ok (f,z) w:=by
 cases fuel with
 | zero=>cases hn
 | succ n =>
   unfold methB at hm;split at hm
   ·rename_i i hi;split at hm
    ·rename_i m hm1;simp only [Option.some.injEq,Prod.mk.injEq] at hm;obtain ⟨hp,hf⟩:=hm;have hp':m.path.toList=[]:=by simpa using hp
     unfold notPtr at hu;split at hu
     ·cases hu
     ·rename_i d hnp hd
      have hr:∀ wr,(receiverAt t (.val z) false wr).run P w=.ok z w:=by
       intro wr;unfold receiverAt;rw [Sem.run_bind,run_underlying hd];cases d<;>first | (exact absurd rfl (hnp _)) | simp [Place.get]
      unfold method;simp [typeInfo,hi,hm1,hp',follow,hf,hr]
     ·cases hu
    ·cases hm
   ·cases hm
def Cfg.withM (C:Cfg) (m:List (FuncId × List EV × EV)):Cfg:={ C with mm:=m }
theorem CfgOk.withM {C:Cfg} (h:CfgOk C) {m:List (FuncId × List EV × EV)} (hm:∀ g ys v,(g,ys,v)∈m→ZF C.P g=true∧XC ys=true∧v.closedB=true∧PureF C.P g (vvL ys) v.vv):CfgOk (C.withM m) :=
 ⟨h.ft,h.mt,h.im,h.mixed,hm⟩
end Go.PV
end
section
open Nat renaming beq→ZpX,eq_of_beq_eq_true→Zp0
set_option maxRecDepth 100000
namespace Go.PV.YtglpmlbbaedbiaaGreat
open Go Go.Proofs Go.Maps
noncomputable def tab:List (Nat × (Nat × List ResultVar × ACode)):=[(7,(80,[(.tmp 0)],c7)),
 (8,(59,[(.cell 6 37),(.cell 7 38)],c8)),
 (21,(5,[(.cell 2 35)],c21)),
 (22,(8,[(.cell 4 35)],c22)),
 (23,(10,[(.cell 4 35)],c23)),
 (24,(35,[(.cell 4 85),(.tmp 5)],c24)),
 (25,(19,[],c25)),
 (26,(70,[(.tmp 6)],c26)),
 (27,(61,[],c27)),
 (28,(36,[(.cell 2 35)],c28)),
 (42,(31,[(.tmp 2),(.tmp 3)],c42)),
 (44,(95,[(.tmp 2)],c44)),
 (45,(44,[(.cell 2 85)],c45)),
 (46,(109,[(.tmp 6)],c46)),
 (47,(23,[(.tmp 3)],c47)),
 (48,(21,[(.tmp 4)],c48)),
 (49,(56,[(.tmp 6)],c49)),
 (50,(86,[(.tmp 6)],c50)),
 (51,(16,[],c51)),
 (52,(53,[],c52)),
 (76,(38,[(.tmp 2)],c76)),
 (77,(25,[(.tmp 2)],c77)),
 (78,(8,[(.tmp 4)],c78)),
 (79,(8,[(.tmp 4)],c79)),
 (80,(72,[(.tmp 6)],c80)),
 (81,(9,[(.tmp 4)],c81)),
 (82,(36,[],c82)),
 (83,(69,[(.tmp 6),(.tmp 7)],c83)),
 (84,(19,[(.tmp 6)],c84)),
 (85,(8,[(.tmp 2)],c85)),
 (108,(17,[(.tmp 2)],c108)),
 (109,(9,[(.tmp 4)],c109)),
 (110,(23,[(.tmp 2)],c110)),
 (111,(9,[(.tmp 2)],c111)),
 (112,(19,[(.tmp 4)],c112)),
 (113,(8,[(.tmp 3)],c113)),
 (114,(19,[(.tmp 4)],c114)),
 (115,(8,[(.tmp 3)],c115)),
 (116,(76,[(.cell 4 38)],c116)),
 (117,(27,[(.tmp 2)],c117)),
 (118,(30,[(.tmp 2),(.tmp 3)],c118)),
 (119,(88,[(.tmp 6)],c119)),
 (120,(19,[(.tmp 4)],c120)),
 (121,(19,[(.tmp 4)],c121)),
 (122,(18,[(.tmp 2)],c122)),
 (123,(8,[],c123)),
 (135,(19,[(.tmp 4)],c135)),
 (136,(4,[(.tmp 2)],c136)),
 (137,(6,[(.tmp 2)],c137)),
 (138,(5,[(.tmp 2)],c138)),
 (139,(45,[(.tmp 2)],c139)),
 (140,(17,[(.tmp 4)],c140)),
 (141,(8,[],c141)),
 (142,(19,[(.tmp 6)],c142)),
 (143,(9,[(.tmp 4)],c143)),
 (144,(11,[(.tmp 4)],c144)),
 (145,(19,[(.tmp 4)],c145)),
 (162,(3,[(.tmp 2)],c162)),
 (163,(11,[(.tmp 2)],c163)),
 (164,(7,[(.tmp 2)],c164))]
noncomputable def ftab:Tr (Nat × List ResultVar × ACode):=ofT tab .lf
noncomputable def mtab:TypeId→Option Value:=fun t=>cond (ZpX t 82) (some (.pointer none)) (cond (ZpX t 83) (some (.int .i64 0)) (cond (ZpX t 235) (some (.bool false)) (none)))
noncomputable def itab:TypeId→String→Option FuncId:=fun t m=>cond (decide (m = "triforium/evaluate.nodes")) (cond (ZpX t 136) (some 162) (cond (ZpX t 139) (some 163) (cond (ZpX t 142) (some 164) (none)))) none
noncomputable def CC:Cfg:={ P:=Tryz.prog,ft:=ftab.get,mt:=mtab,im:=itab,mm:=[] }
theorem mapT82:MapT Tryz.prog 82 (.pointer none):=⟨9,137,by kernel_rfl,string_keyed (by kernel_rfl),by kernel_rfl⟩
theorem mapT83:MapT Tryz.prog 83 (.int .i64 0):=⟨9,3,by kernel_rfl,string_keyed (by kernel_rfl),by kernel_rfl⟩
theorem mapT235:MapT Tryz.prog 235 (.bool false):=⟨9,4,by kernel_rfl,string_keyed (by kernel_rfl),by kernel_rfl⟩
theorem meth136 (z:Value) (w:World):(method (Tryz.prog.types.size+Made.depth) 136 z "triforium/evaluate.nodes").run Tryz.prog w=.ok (162,z) w:=Zbf (by kernel_rfl) (by kernel_rfl) (by kernel_rfl) z w
theorem meth139 (z:Value) (w:World):(method (Tryz.prog.types.size+Made.depth) 139 z "triforium/evaluate.nodes").run Tryz.prog w=.ok (163,z) w:=Zbf (by kernel_rfl) (by kernel_rfl) (by kernel_rfl) z w
theorem meth142 (z:Value) (w:World):(method (Tryz.prog.types.size+Made.depth) 142 z "triforium/evaluate.nodes").run Tryz.prog w=.ok (164,z) w:=Zbf (by kernel_rfl) (by kernel_rfl) (by kernel_rfl) z w
theorem en_162:ZF Tryz.prog 162=true:=by kernel_rfl
theorem en_163:ZF Tryz.prog 163=true:=by kernel_rfl
theorem en_164:ZF Tryz.prog 164=true:=by kernel_rfl
theorem CCok:CfgOk CC where
 ft f N rs a h:=by
  have hm:=ofT_get tab .lf h
  have hall:∀ x∈tab,FnD Tryz.prog x.1 x.2.1 x.2.2.1 x.2.2.2∧ZF Tryz.prog x.1=true:=by
   simp only [tab,List.forall_mem_cons];exact ⟨⟨fd7,en_7⟩,⟨fd8,en_8⟩,⟨fd21,en_21⟩,⟨fd22,en_22⟩,⟨fd23,en_23⟩,⟨fd24,en_24⟩,⟨fd25,en_25⟩,⟨fd26,Zpp⟩,⟨fd27,Zpq⟩,⟨fd28,en_28⟩,⟨fd42,Zmg⟩,⟨fd44,Zmh⟩,⟨fd45,en_45⟩,⟨fd46,en_46⟩,⟨fd47,en_47⟩,⟨fd48,Zpt⟩,⟨fd49,en_49⟩,⟨fd50,en_50⟩,⟨fd51,Zpu⟩,⟨fd52,en_52⟩,⟨fd76,en_76⟩,⟨fd77,ZfT⟩,⟨fd78,Zbb⟩,⟨fd79,ZeZ⟩,⟨fd80,en_80⟩,⟨fd81,Zpw⟩,⟨fd82,Zmi⟩,⟨fd83,Zmj⟩,⟨fd84,en_84⟩,⟨fd85,en_85⟩,⟨fd108,ZkP⟩,⟨fd109,en_109⟩,⟨fd110,en_110⟩,⟨fd111,en_111⟩,⟨fd112,en_112⟩,⟨fd113,en_113⟩,⟨fd114,en_114⟩,⟨fd115,en_115⟩,⟨fd116,en_116⟩,⟨fd117,en_117⟩,⟨fd118,Zm7⟩,⟨fd119,Zm9⟩,⟨fd120,Zm8⟩,⟨fd121,en_121⟩,⟨fd122,ZfF⟩,⟨fd123,en_123⟩,⟨fd135,en_135⟩,⟨fd136,ZkQ⟩,⟨fd137,Zes⟩,⟨fd138,ZiU⟩,⟨fd139,ZbY⟩,⟨fd140,ZfH⟩,⟨fd141,en_141⟩,⟨fd142,ZiV⟩,⟨fd143,ZiW⟩,⟨fd144,Znb⟩,⟨fd145,en_145⟩,⟨fd162,en_162⟩,⟨fd163,en_163⟩,⟨fd164,en_164⟩,fun x hx=>by cases hx⟩
  exact hall _ hm
 mt t z h:=by
  simp only [CC,mtab] at h;rcases condC h with ⟨hb,h⟩ | ⟨_,h⟩
  ·rw [Zp0 hb]; cases h; exact mapT82
  rcases condC h with ⟨hb,h⟩ | ⟨_,h⟩
  ·rw [Zp0 hb]; cases h; exact mapT83
  rcases condC h with ⟨hb,h⟩ | ⟨_,h⟩
  ·rw [Zp0 hb]; cases h; exact mapT235
  cases h
 im t m g h:=by
  simp only [CC,itab] at h;have hq:=condS h;clear h;obtain ⟨hm,h⟩:=hq;obtain rfl:=of_decide_eq_true hm;rcases condC h with ⟨hb,h⟩ | ⟨_,h⟩
  ·rw [Zp0 hb]; cases h; exact meth136
  rcases condC h with ⟨hb,h⟩ | ⟨_,h⟩
  ·rw [Zp0 hb]; cases h; exact meth139
  rcases condC h with ⟨hb,h⟩ | ⟨_,h⟩
  ·rw [Zp0 hb]; cases h; exact meth142
  cases h
 mixed:=mixed
 mm _ _ _ h:=by cases h
end Go.PV.YtglpmlbbaedbiaaGreat
end
section
set_option maxRecDepth 100000
namespace Go.PV.YtglpmlbbaedbiaaGreat
open Go Go.Proofs
def xmP:EV:=(.agg [(.isl true 2 [(.lit (.string ⟨#[90,101,114,111]⟩)),(.lit (.int .i64 0)),(.lit (.string ⟨#[83,117,99]⟩)),(.lit (.int .i64 1))]),(.isl true 1 [(.lit (.string ⟨#[97,100,100]⟩)),(.lit (.int .i64 2)),(.isl true 2 [(.isl true 2 [(.lit (.bool true)),(.lit (.string ⟨#[90,101,114,111]⟩)),(.lit (.slice none 0 0)),(.lit (.bool false)),(.lit (.string ⟨#[121]⟩)),(.lit (.slice none 0 0))]),(.lit (.int .i64 1)),(.lit (.string ⟨#[121]⟩)),(.lit (.slice none 0 0)),(.isl true 2 [(.lit (.bool true)),(.lit (.string ⟨#[83,117,99]⟩)),(.isl true 1 [(.lit (.bool false)),(.lit (.string ⟨#[120]⟩)),(.lit (.slice none 0 0))]),(.lit (.bool false)),(.lit (.string ⟨#[121]⟩)),(.lit (.slice none 0 0))]),(.lit (.int .i64 3)),(.lit (.string ⟨#[83,117,99]⟩)),(.isl true 1 [(.lit (.int .i64 4)),(.lit (.string ⟨#[]⟩)),(.isl true 3 [(.lit (.int .i64 2)),(.lit (.string ⟨#[97,100,100]⟩)),(.lit (.slice none 0 0)),(.lit (.int .i64 1)),(.lit (.string ⟨#[120]⟩)),(.lit (.slice none 0 0)),(.lit (.int .i64 1)),(.lit (.string ⟨#[121]⟩)),(.lit (.slice none 0 0))])])])])])
def xmE:EV:=(.agg [(.lit (.int .i64 4)),(.lit (.string ⟨#[]⟩)),(.isl true 3 [(.lit (.int .i64 2)),(.lit (.string ⟨#[97,100,100]⟩)),(.lit (.slice none 0 0)),(.lit (.int .i64 3)),(.lit (.string ⟨#[83,117,99]⟩)),(.isl true 1 [(.lit (.int .i64 3)),(.lit (.string ⟨#[90,101,114,111]⟩)),(.lit (.slice none 0 0))]),(.lit (.int .i64 3)),(.lit (.string ⟨#[90,101,114,111]⟩)),(.lit (.slice none 0 0))])])
theorem check_ex:ZF Tryz.prog 44=true∧XC [xmP]=true∧(EV.lit (.int .i64 0)).closedB=true∧PureF Tryz.prog 44 (vvL [xmP]) (iV 0):=ZgD CCok 44 [xmP] (.lit (.int .i64 0)) 500 100 (by kernel_rfl) (by kernel_rfl)
theorem size_ex:ZF Tryz.prog 42=true∧XC [xmE]=true∧(EV.tuple [.lit (.int .i64 5),.lit (.int .i64 3)]).closedB=true∧PureF Tryz.prog 42 (vvL [xmE]) (EV.tuple [.lit (.int .i64 5),.lit (.int .i64 3)]).vv:=ZgD CCok 42 [xmE] (.tuple [.lit (.int .i64 5),.lit (.int .i64 3)]) 500 100 (by kernel_rfl) (by kernel_rfl)
noncomputable def C1:Cfg:=CC.withM [(44,[xmP],.lit (.int .i64 0)),(42,[xmE],.tuple [.lit (.int .i64 5),.lit (.int .i64 3)])]
theorem C1ok:CfgOk C1:=CCok.withM fun g ys v h=>by
 simp only [List.mem_cons,Prod.mk.injEq,List.not_mem_nil,or_false] at h;rcases h with ⟨rfl,rfl,rfl⟩ | ⟨rfl,rfl,rfl⟩
 ·exact check_ex
 ·exact size_ex
def xmR:EV:=(.tuple [(.agg [(.lit (.int .i64 3)),(.lit (.string ⟨#[83,117,99]⟩)),(.isl false 1 [(.lit (.int .i64 3)),(.lit (.string ⟨#[90,101,114,111]⟩)),(.lit (.slice none 0 0))]),(.lit (.int .i64 2))]),(.lit (.int .i64 0))])
theorem run_ex:ZF Tryz.prog 8=true∧XC [xmP,xmE,.lit (.int .i64 10)]=true∧xmR.closedB=true∧PureF Tryz.prog 8 (vvL [xmP,xmE,.lit (.int .i64 10)]) xmR.vv:=ZgD C1ok 8 [xmP,xmE,.lit (.int .i64 10)] xmR 500 100 (by kernel_rfl) (by kernel_rfl)
noncomputable def C2:Cfg:=CC.withM [(8,[xmP,xmE,.lit (.int .i64 10)],xmR)]
theorem C2ok:CfgOk C2:=CCok.withM fun g ys v h=>by
 simp only [List.mem_cons,Prod.mk.injEq,List.not_mem_nil,or_false] at h;obtain ⟨rfl,rfl,rfl⟩:=h;exact run_ex
theorem awake7:PureF Tryz.prog 7 [] (boolV true):=reckoned C2ok 7 500 100 (by kernel_rfl)
end Go.PV.YtglpmlbbaedbiaaGreat
end
section
open List renaming append_nil→ZqJ
open Nat renaming le_refl→ZpY
set_option maxRecDepth 20000
namespace Go.Proofs.YtglpmlbbaedbiaaGreat
open Go.ChangeShapes Go.WideShapes Go.RowKit Go.PV Go.PV.YtglpmlbbaedbiaaGreat
theorem Zi9 (H:Type) (enc:TypeId × Value→H) (W:World) (base:Nat) (args:Array Value) (ds gs:List (DataW H)) (before:List MemPlace)
 (hval:∀ (j:Nat) t v,Tryz.f3.params[j]?=some t→args[j]?=some v→Value.okWide Tryz.prog W .any base t v)
 (hW:DataW.Whole enc Tryz.prog Tryz.f3.params.toList Rows.evaluateRunsSpec.vars false W args.toList ds gs before) (hk:Rows.uptoSmall H (ds++gs)=true) :
 Calls Tryz.prog 3 args W fun e W'=>∃ v,e=.returned v∧Rows.evaluateRunsSpec.post enc Tryz.prog Tryz.f3 false true false false W args v W':=by
 have hW':=hW;obtain ⟨p,q,hA0,hV,rfl,hfz,hnd⟩:=hW;have hA:DataW.TrodAll enc Tryz.prog W 0 (fun _=>true) true Tryz.f3.params.toList args.toList ds p:=hA0;rw [Tryz.params3] at hA hval;obtain ⟨v0,vs0,d0,ds0,p0,q0,hargs,rfl,rfl,h0,r0⟩:=trodAll_cons hA;obtain ⟨v1,vs1,d1,ds1,p1,q1,rfl,rfl,rfl,h1,r1⟩:=trodAll_cons r0;obtain ⟨v2,vs2,d2,ds2,p2,q2,rfl,rfl,rfl,h2,r2⟩:=trodAll_cons r1;obtain ⟨v3,vs3,d3,ds3,p3,q3,rfl,rfl,rfl,h3,r3⟩:=trodAll_cons r2;obtain ⟨rfl,rfl,rfl⟩:=trodAll_nil r3;obtain rfl:args=#[v0,v1,v2,v3]:=by cases args; simp_all
 obtain ⟨rfl,rfl⟩:=trodVars_none hV;have hb:=small_of hk;simp only [ZqJ,bulkA] at hb;obtain ⟨p,_,m0,a0⟩:=Zd5 (rdPr _) h0 (ZpY _);obtain ⟨e,_,m1,a1⟩:=Zd5 (rdEx _ _ (ZpY _)) h1 (ZpY _);obtain ⟨e',_,m2,a2⟩:=Zd5 (rdEx _ _ (ZpY _)) h2 (ZpY _);obtain ⟨fu,k2,_,a3⟩:=Zd5 (ZhH (n:=bulkD d3) Tryz.underlying3) h3 (ZpY _);have b0:=Znp a0 (ZcG Tryz.underlying25 (hval 0 25 v0 rfl rfl));have b1:=Znp a1 (ZcG Tryz.underlying28 (hval 1 28 v1 rfl rfl));have b1:Rv (old W) W (exV e) v1:=by rw [Jt] at b1; exact b1
 have b2:=Znp a2 (ZcG Tryz.underlying28 (hval 2 28 v2 rfl rfl));have b2:Rv (old W) W (exV e') v2:=by rw [Jt] at b2; exact b2
 have b3:=rv_one a3 (ZoS Tryz.underlying3 (hval 3 3 v3 rfl rfl));have hp:PureF Tryz.prog 3 [prV p,exV e,exV e',iV fu] (boolV true):=eruns_ok p e e' fu (by omega) (by omega) (by omega) awake7;exact Zmr (xs:=[prV p,exV e,exV e',iV fu]) laidOut (by kernel_rfl) (tb:=4) (by kernel_rfl) Tryz.underlying4 rfl hW' rfl ⟨_,_,rfl,b0,_,_,rfl,b1,_,_,rfl,b2,_,_,rfl,b3,rfl⟩ hp
set_option maxRecDepth 100000 in
theorem Zly (os:Os) (started:os.Started) (H:Type) (enc:TypeId × Value→H) (F:Stop.Interp) :
 ReturnsInHanded {} Tryz.checked os 3 .any ((Rows.OpenSpec.upto Rows.evaluateRunsSpec).pre6 enc Tryz.prog Tryz.f3 Rows.evaluateRunsUptoRow.domain false) (((Rows.OpenSpec.upto Rows.evaluateRunsSpec).at F).post enc Tryz.prog Tryz.f3 false true false false):=by
 refine returnsInHanded_of_cond (C:=Tryz.checked) (s:=Rows.OpenSpec.upto Rows.evaluateRunsSpec) (k:=Rows.uptoSmall) rfl own started (by kernel_rfl) Tryz.func3
  (OpenSpec.witness (enc:=enc) (C:=Tryz.checked) (s:=Rows.OpenSpec.upto Rows.evaluateRunsSpec) (k:=Rows.uptoSmall) rfl false ⟨#[],#[.agg #[.slice none 0 0,.slice none 0 0],.agg #[.int .i64 0,.string .empty,.slice none 0 0],.agg #[.int .i64 0,.string .empty,.slice none 0 0],.int .i64 0],[]⟩ 8 (by kernel_rfl) (by kernel_rfl) (by kernel_rfl)
    (x:=([.agg [.nil,.nil],.agg [.lit (.int .i64 0),.lit (.string []),.nil],.agg [.lit (.int .i64 0),.lit (.string []),.nil],.lit (.int .i64 0)],[],[])) (by kernel_rfl) rfl (by kernel_rfl)) ?_
 intro W base args ds gs before hval hW _ hk _;exact Zi9 H enc W base args ds gs before hval hW hk
theorem evaluateRuns:Rows.EvaluateRunsUptoSaid :=
 OpenClaim.holds_of_cond 3 Tryz.f3 rfl rfl rfl rfl rfl rfl rfl ⟨rfl,rfl,rfl,rfl,rfl⟩ rfl rfl rfl rfl rfl (by kernel_rfl) Tryz.func3 (by kernel_rfl)
  (of_decide_eq_true (by kernel_rfl)) (by unfold Func.isWrapper; first | (rw [if_pos (by decide +kernel)]; kernel_rfl) | (rw [if_neg (by decide +kernel)]; exact ⟨rfl,rfl⟩))
  (fun os started H enc _ F=>Zly os started H enc F)
#print axioms evaluateRuns
end Go.Proofs.YtglpmlbbaedbiaaGreat
end
