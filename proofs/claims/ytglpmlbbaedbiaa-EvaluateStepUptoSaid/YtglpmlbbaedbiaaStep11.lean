/- Proved: EvaluateStep, for every input of a bulk within the bound that its statement names. -/
import Derived.Test.YtglpmlbbaedbiaaStep10
import Derived.Test.YtglpmlbbaedbiaaStep3
import Derived.KernelRfl
import Derived.Test.YtglpmlbbaedbiaaStep5
import Derived.Test.YtglpmlbbaedbiaaStep9
set_option linter.unusedVariables false
set_option linter.unusedSimpArgs false
set_option linter.defProp false
section
open List renaming length_cons→Zpx,getElem?_cons_succ→Zqb,getElem?_eq_getElem→ZpP,getD_eq_getElem?_getD→Zqj,getElem?_eq_none→Zqd,mem_cons_of_mem→Zqe
open Nat renaming ble→Zpq,beq→Zpj,eq_of_beq_eq_true→Zpm,le_of_ble_eq_true→Zpr
namespace Go.PV
def ZeW:List EV→Nat→Tr EV→Option (Tr EV)
 | [],_,t=>some t
 | v::vs,i,t=>match Tr.set 20 t i v with | some t'=>ZeW vs (i+1) t' | none=>none
theorem Zhs:∀ (vs:List EV) (j:Nat) (t t':Tr EV),ZeW vs j t=some t'→∀ i,t'.get i=if j≤i∧i-j<vs.length then vs[i-j]? else t.get i
 | [],j,t,t',h,i=>by
   simp only [ZeW,Option.some.injEq] at h;subst h;simp
 | v::vs,j,t,t',h,i=>by
   simp only [ZeW] at h;split at h
   ·rename_i t1 h1;rw [Zhs vs (j+1) t1 t' h i,Tr.get_set _ _ _ _ _ h1];by_cases e:i=j
    ·subst e; simp; omega
    ·by_cases hlt:j≤i
     ·have h2:i-j=(i-(j+1))+1:=by omega
      simp only [e,if_false];rw [h2];simp only [Zpx,Zqb];by_cases hc:i-(j+1)<vs.length
      ·rw [if_pos ⟨by omega,hc⟩,if_pos ⟨hlt,by omega⟩]
      ·rw [if_neg (by omega),if_neg (by omega)]
     ·rw [if_neg (by omega),if_neg e,if_neg (by omega)]
   ·cases h
theorem Zgd {σ:Sg} {vs:List EV} {xs:List VV} {t:Tr EV} (hl:RVL σ vs xs) (h:ZeW vs 0 .lf=some t) (i:Nat):RVo σ (t.get i) (xs.getD i ZJ):=by
 rw [Zhs _ _ _ _ h];simp only [Nat.zero_le,true_and,Nat.sub_zero];by_cases hi:i<vs.length
 ·rw [if_pos hi];have hg:vs[i]?=some vs[i]:=ZpP hi;obtain ⟨x,e,hx⟩:=hl.get? i _ hg;rw [hg,Zqj,e];exact hx
 ·rw [if_neg hi,Zqj,Zqd (by rw [hl.length]; omega)];rfl
def Zd3:List Tmp→List EV→Tr EV→Option (Tr EV)
 | p::ps,v::vs,t=>match Tr.set 20 t p v with | some t'=>Zd3 ps vs t' | none=>none
 | _,_,t=>some t
theorem ZeP {σ:Sg}:∀ {ps:List Tmp} {vs:List EV} {xs:List VV} {t t':Tr EV} {f:Nat→VV},RVL σ vs xs→(∀ i,RVo σ (t.get i) (f i))→Zd3 ps vs t=some t'→∀ i,RVo σ (t'.get i) (Zat ps xs f i)
 | [],vs,xs,t,t',f,hl,ht,h=>by
   simp only [Zd3,Option.some.injEq] at h;subst h;simpa only [Zat] using ht
 | p::ps,[],xs,t,t',f,hl,ht,h=>by
   simp only [RVL] at hl;subst hl;simp only [Zd3,Option.some.injEq] at h;subst h;simpa only [Zat] using ht
 | p::ps,v::vs,xs,t,t',f,hl,ht,h=>by
   obtain ⟨x,xs',rfl,h1,h2⟩:=hl;simp only [Zd3] at h;split at h
   ·rename_i t1 ht1;simp only [Zat];refine ZeP h2 (fun i=>?_) h;rw [Tr.get_set _ _ _ _ _ ht1];simp only [upd];split
    ·exact h1
    ·exact ht i
   ·cases h
def resE (P:Program) (t:Tr EV) (h:Tr EB):List ResultVar→Option (List EV)
 | []=>some []
 | .tmp i::rs=>(match resE P t h rs with | some vs=>some (evO t (.tmp i)::vs) | none=>none)
 | .cell a ty::rs=>(match t.get a with
   | some (.ptr k o)=>(match loadE P h.get ty (.ptr k o) with
     | some v=>(match resE P t h rs with | some vs=>some (v::vs) | none=>none)
     | none=>none)
   | _=>none)
def tupE:List EV→EV
 | [x]=>x
 | xs=>.tuple xs
theorem Zdm {P:Program} {σ:Sg} {t:Tr EV} {h:Tr EB} {A:AF} {H:AH} (ht:∀ i,RVo σ (t.get i) (A.t i)) (hr:HR P σ h H):∀ {rs:List ResultVar} {vs:List EV},resE P t h rs=some vs→∃ xs,Xi P A H rs=some xs∧RVL σ vs xs
 | [],vs,he=>by
   simp only [resE,Option.some.injEq] at he;subst he;exact ⟨[],rfl,rfl⟩
 | .tmp i::rs,vs,he=>by
   simp only [resE] at he;split at he
   ·rename_i us hu;simp only [Option.some.injEq] at he;subst he;obtain ⟨xs,h1,h2⟩:=Zdm ht hr hu;exact ⟨A.t i::xs,by simp [Xi,Xh,h1],_,_,rfl,JP ht (.tmp i),h2⟩
   ·cases he
 | .cell a ty::rs,vs,he=>by
   simp only [resE] at he;split at he
   ·rename_i k o hk;split at he
    ·rename_i v hv;split at he
     ·rename_i us hu;simp only [Option.some.injEq] at he;subst he;obtain ⟨xs,h1,h2⟩:=Zdm ht hr hu;have hta:=ht a;rw [hk] at hta;obtain ⟨p,hp,e⟩:=hta
      have hld:XL P ty (A.t a) H (fun e _=>∃ x,e=.ret x∧RV σ v x∧Xh P A H (.cell a ty)=some x):=by
       unfold loadE at hv;split at hv
       ·rename_i n ag hl;dsimp only at hv;split at hv
        ·rename_i e' cs hb;rcases hr.blk k _ hb with hd | ⟨q,B,g1,g2,g3⟩
         ·cases hd
         ·rw [hp] at g1; cases g1;obtain ⟨ys,rfl,hc⟩:=g3;obtain ⟨x,f1,f2⟩:=ZbH (hc.drop o) hv;rw [e];simp only [XL,hl,ptrV,g2,f1];exact ⟨x,rfl,f2,by simp only [Xh,hl,e,ptrV,g2,f1]⟩
        ·rename_i e' s cs hb;rcases hr.blk k _ hb with hd | ⟨q,B,g1,g2,g3⟩
         ·cases hd
         ·rw [hp] at g1; cases g1;obtain ⟨ys,sp,rfl,hc,_⟩:=g3;obtain ⟨x,f1,f2⟩:=ZbH (hc.drop o) hv;rw [e];simp only [XL,hl,ptrV,g2,f1];exact ⟨x,rfl,f2,by simp only [Xh,hl,e,ptrV,g2,f1]⟩
        ·cases hv
       ·cases hv
      have:∃ x,RV σ v x∧Xh P A H (.cell a ty)=some x:=by
       rw [e] at hld;simp only [XL,ptrV] at hld;split at hld
       ·rename_i e1; cases e1
       ·split at hld
        ·split at hld
         ·obtain ⟨x,_,f2,f3⟩:=hld; exact ⟨x,f2,f3⟩
         ·exact hld.elim
        ·exact hld.elim
       ·exact hld.elim
      obtain ⟨x,f2,f3⟩:=this;exact ⟨x::xs,by simp [Xi,f3,h1],_,_,rfl,f2,h2⟩
     ·cases he
    ·cases he
   ·cases he
theorem ZoM {σ:Sg} {vs:List EV} {xs:List VV} (h:RVL σ vs xs):RV σ (tupE vs) (tupV xs):=by
 match vs,h with
 | [],h=>simp only [RVL] at h; subst h; exact ⟨[],rfl,rfl⟩
 | [v],h=>obtain ⟨y,ys,rfl,h1,h2⟩:=h; simp only [RVL] at h2; subst h2; exact h1
 | v::u::vs,h =>
   have h0:=h;obtain ⟨y,ys,rfl,h1,h2⟩:=h;obtain ⟨z,zs,rfl,h3,h4⟩:=h2;exact ⟨_,rfl,h0⟩
def mvE (o:GOp) (t:Tr EV):Option (Tr EV) :=
 match o.op with
 | .move x=>(match o.dst with | none=>some t | some d=>Tr.set 20 t d (evO t x))
 | .assign x=>(match o.dst with | none=>some t | some d=>Tr.set 20 t d (evO t x))
 | _=>none
def mvsE:List GOp→Tr EV→Option (Tr EV)
 | [],t=>some t
 | o::l,t=>match mvE o t with | some t'=>mvsE l t' | none=>none
theorem Zji {σ:Sg}:∀ {l:List GOp} {t t':Tr EV} {A:AF},(∀ i,RVo σ (t.get i) (A.t i))→mvsE l t=some t'→(∀ i,RVo σ (t'.get i) ((mvs l A).t i))∧(mvs l A).d=A.d
 | [],t,t',A,ht,he=>by
   simp only [mvsE,Option.some.injEq] at he;subst he;exact ⟨ht,rfl⟩
 | o::l,t,t',A,ht,he=>by
   simp only [mvsE] at he;split at he
   ·rename_i t1 h1
    have hA:(∀ i,RVo σ (t1.get i) ((mvV A o).t i))∧(mvV A o).d=A.d:=by
     have key:∀ x,(match o.dst with | none=>some t | some d=>Tr.set 20 t d (evO t x))=some t1→(∀ i,RVo σ (t1.get i) ((A.put o.dst (A.eval x)).t i))∧(A.put o.dst (A.eval x)).d=A.d:=by
      intro x hx;split at hx
      ·rename_i e;simp only [Option.some.injEq] at hx;subst hx;rw [e];exact ⟨ht,rfl⟩
      ·rename_i d e;rw [e];refine ⟨fun i=>?_,rfl⟩;rw [Tr.get_set _ _ _ _ _ hx];simp only [AF.put,upd];split
       ·exact JP ht x
       ·exact ht i
     unfold mvE at h1;unfold mvV;split at h1
     ·rename_i e; simp only [e]; exact key _ h1
     ·rename_i e; simp only [e]; exact key _ h1
     ·cases h1
    obtain ⟨g1,g2⟩:=Zji hA.1 he;exact ⟨g1,g2.trans hA.2⟩
   ·cases he
def recE (N:Nat):ACode→Option (Tmp × List GOp × ACode)
 | .seq (.reg (⟨some d,.call { callee:=.builtin .recover,args,argTypes },none⟩::l)) a=>(match args.toList with | []=>cond (l.all fun o=>cond (isMv o) (dOkB N o.dst) false) (some (d,l,a)) none | _=>none)
 | _=>none
theorem ZoN {N:Nat} {a a':ACode} {d:Tmp} {l:List GOp} (h:recE N a=some (d,l,a')):(∃ ts,a=.seq (.reg (⟨some d,.call { callee:=.builtin .recover,args:=#[],argTypes:=ts },none⟩::l)) a')∧∀ o∈l,isMv o=true∧dOk N o.dst:=by
 unfold recE at h;split at h
 ·rename_i d' args ts l1 a1;split at h
  ·rename_i e;have hq:=condS h;clear h;obtain ⟨hc,h⟩:=hq;simp only [Option.some.injEq,Prod.mk.injEq] at h;obtain ⟨rfl,rfl,rfl⟩:=h
   have:args=#[]:=Array.toList_inj.1 (by rw [e])
   subst this;refine ⟨⟨ts,rfl⟩,fun o ho=>?_⟩;rw [List.all_eq_true] at hc;obtain ⟨h1,h2⟩:=cond3 (hc o ho);exact ⟨h1,ZbI h2⟩
  ·cases h
 ·cases h
def dfunE (C:Cfg) (call:CallF) (lim:Nat) (f:FuncId) (xs:List EV) (h:Tr EB) (nx:Nat):Option (Tr EB × Nat) :=
 match C.ft f with
 | some (N,rs,a)=>cond (Zpq xs.length N) (match ZeW xs 0 .lf with
   | some t=>(match (match recE N a with
      | some (d,l,a')=>cond (Zpq (d+1) N) (match Tr.set 20 t d (.lit .nilIface) with
        | some t1=>(match mvsE l t1 with | some t2=>codeE C call lim N true a' ⟨t2,[],h,nx⟩ | none=>none)
        | none=>none) none
      | none=>codeE C call lim N true a ⟨t,[],h,nx⟩) with
     | some (e,s)=>(match e with
       | .ext _=>none
       | _=>(match s.d with
         | []=>(match resE C.P s.t s.h rs with | some _=>some (s.h,s.nx) | none=>none)
         | _=>none))
     | none=>none)
   | none=>none) none
 | none=>none
def ZeX (C:Cfg) (call:CallF) (lim:Nat) (rs:List ResultVar) (t:Tr EV):List ED→Tr EB→Nat→Option HN
 | [],h,nx=>(match resE C.P t h rs with | some vs=>some (tupE vs,h,nx) | none=>none)
 | .mark k::ds,h,nx=>(match h.get k with
   | some .deferred=>(match Tr.set 40 h k .dead with | some h'=>ZeX C call lim rs t ds h' nx | none=>none)
   | _=>none)
 | .fn f args cap::ds,h,nx=>(match dfunE C call lim f (args++cap) h nx with
   | some (h',nx')=>ZeX C call lim rs t ds h' nx'
   | none=>none)
def Zkx:List (FuncId × List EV × EV)→FuncId→List EV→Option EV
 | [],_,_=>none
 | (g',ys,v)::l,g,xs=>cond (cond (Zpj g' g) (beqEL ys xs) false) (some v) (Zkx l g xs)
theorem Zht:∀ {l:List (FuncId × List EV × EV)} {g:FuncId} {xs:List EV} {v:EV},Zkx l g xs=some v→(g,xs,v)∈l
 | [],g,xs,v,h=>by cases h
 | (g',ys,u)::l,g,xs,v,h=>by
   simp only [Zkx] at h;rcases condC h with ⟨hc,hv⟩ | ⟨_,hv⟩
   ·obtain ⟨h1,h2⟩:=cond3 hc;clear h hc;obtain rfl:=Zpm h1;obtain rfl:=Xo _ _ h2;cases hv;exact List.mem_cons_self ..
   ·exact Zqe _ (Zht hv)
def funE (C:Cfg) (call:CallF) (lim:Nat) (g:FuncId) (xs:List EV) (h:Tr EB) (nx:Nat):Option HN :=
 match Zkx C.mm g xs with
 | some v=>some (v,h,nx)
 | none =>
 match C.ft g with
 | some (N,rs,a)=>cond (Zpq xs.length N) (match ZeW xs 0 .lf with
   | some t=>(match codeE C call lim N true a ⟨t,[],h,nx⟩ with
     | some (e,s)=>(match e with
       | .ext _=>none
       | _=>ZeX C call lim rs s.t s.d s.h s.nx)
     | none=>none)
   | none=>none) none
 | none=>none
def Zne (C:Cfg) (call:CallF) (lim:Nat) (k:Nat) (xs:List EV) (h:Tr EB) (nx:Nat):Option HN :=
 match h.get k with
 | some (.loop .ready _ N t ps asg bd r)=>cond (cond (Zpj xs.length ps.size) (ps.toList.all fun p=>Zpq (p+1) N) false) (match Zd3 ps.toList xs t with
   | some t1=>(match codeE C call lim N false asg ⟨t1,[],h,nx⟩ with
     | some (.nrm,s1)=>(match s1.h.get k with
       | some (.loop .ready _ N1 _ ps1 _ _ r1)=>cond (sameL N N1 ps ps1 r r1) (match Tr.set 40 s1.h k (.loop .busy none N t ps asg bd r) with
         | some h2=>(match codeE C call lim N false bd { s1 with h:=h2 } with
           | some (e,s2)=>(match s2.h.get k with
             | some (.loop .busy _ N2 _ ps2 _ _ r2)=>cond (sameL N N2 ps ps2 r r2) (match e with
               | .nrm=>(match Tr.set 40 s2.h k (.loop .ready none N t ps asg bd r) with | some h3=>some (.lit (.bool true),h3,s2.nx) | none=>none)
               | .ret=>(match Tr.set 40 s2.h k (.loop .done (some none) N t ps asg bd r) with | some h3=>some (.lit (.bool false),h3,s2.nx) | none=>none)
               | .ext i=>(match Tr.set 40 s2.h k (.loop .done (some (some i)) N t ps asg bd r) with | some h3=>some (.lit (.bool false),h3,s2.nx) | none=>none)) none
             | _=>none)
           | none=>none)
         | none=>none) none
       | _=>none)
     | _=>none)
   | none=>none) none
 | _=>none
def callE (C:Cfg) (lim:Nat):Nat→CallF
 | 0=>fun _ _ _ _=>none
 | n+1=>fun f xs h nx=>match f with
   | .func g first cap=>funE C (callE C lim n) lim g (first++xs++cap) h nx
   | .lit (.func (.func g) a b)=>funE C (callE C lim n) lim g (a.toList.map .lit++xs++b.toList.map .lit) h nx
   | .yield k=>Zne C (callE C lim n) lim k xs h nx
   | _=>none
section
variable {C:Cfg} {call:CallF} {lim:Nat}
theorem ZkY (hC:CfgOk C) (hcall:JK C call) {f:FuncId} {xs:List EV} {h h':Tr EB} {nx nx':Nat} (he:dfunE C call lim f xs h nx=some (h',nx')) {σ:Sg} {ys:List VV} {H:AH} {K:VE→FrameMode→AH→Prop} (hr:HR C.P σ h H) (hl:RVL σ xs ys)
 (hK:∀ σ' H' x,Ext σ σ'→HR C.P σ' h' H'→K (.ret x) .returning H'):ZL C.P f=true∧ZaN C.P f ys .returning H K:=by
 unfold dfunE at he;split at he
 ·rename_i N rs a hf;obtain ⟨hd,hen⟩:=hC.ft f N rs a hf;have hq:=condS he;clear he;obtain ⟨hc,he⟩:=hq;have hN:ys.length≤N:=by rw [hl.length]; exact Zpr hc
  refine ⟨hen,?_⟩;split at he
  ·rename_i t ht;have hfr:=Zgd hl ht;split at he
   ·rename_i e s hrun
    have fin:∀ e',(e'=Ex.nrm∨e'=Ex.ret)→e=e'→∀ σ' A' H',Ext σ σ'→RA C.P σ' s A' H'→A'.d=[]∧∃ x H'' x',resV C.P rs A' H'=some x∧GhV H' x H'' x'∧K (.ret x') .returning H'':=by
     rintro e' he' rfl σ' A' H' hx hra
     have he2:(match s.d with | []=>(match resE C.P s.t s.h rs with | some _=>some (s.h,s.nx) | none=>none) | _=>none)=some (h',nx'):=by
      rcases he' with rfl | rfl<;>exact he
     split at he2
     ·rename_i hd0;split at he2
      ·rename_i vs hv;simp only [Option.some.injEq,Prod.mk.injEq] at he2;obtain ⟨rfl,rfl⟩:=he2;have hdd:=hra.d;rw [hd0] at hdd;obtain ⟨zs,g1,g2⟩:=Zdm hra.t hra.h hv;exact ⟨hdd,tupV zs,H',tupV zs,by simp [resV,g1],GhV.refl _ _,hK σ' H' _ hx hra.h⟩
      ·cases he2
     ·cases he2
    have fin':∀ σ' A' H',Ext σ σ'→RA C.P σ' s A' H'→(match e with | .ext _=>fun (A':AF) (H':AH)=>False | _=>fun A' H'=>A'.d=[]∧∃ x H'' x',resV C.P rs A' H'=some x∧GhV H' x H'' x'∧K (.ret x') .returning H'') A' H':=by
     intro σ' A' H' hx hra;cases e with
     | nrm=>exact fin .nrm (.inl rfl) rfl σ' A' H' hx hra
     | ret=>exact fin .ret (.inr rfl) rfl σ' A' H' hx hra
     | ext i=>cases he
    have mono:∀ e' A' H',toQ (fun e=>match e with | .ext _=>fun (A':AF) (H':AH)=>False | _=>fun A' H'=>A'.d=[]∧∃ x H'' x',resV C.P rs A' H'=some x∧GhV H' x H'' x'∧K (.ret x') .returning H'') e' A' H'→Ze4 C.P rs .returning K e' A' H':=by
     intro e' A' H' hq;cases e' with
     | normal=>exact hq
     | ret=>exact hq
     | exit i=>exact hq.elim
     | goto l=>exact hq.elim
     | panic ch=>exact hq.elim
     | outgrown=>exact hq.elim
    split at hrun
    ·rename_i d l a' hrec;obtain ⟨⟨ts,ea⟩,hmv⟩:=ZoN hrec;have hq:=condS hrun;clear hrun;obtain ⟨hdN,hrun⟩:=hq;split at hrun
     ·rename_i t1 ht1;split at hrun
      ·rename_i t2 ht2;rw [ea] at hd;refine Zah hd hmv hN (Zpr hdN) (ZhY ?_ mono)
       have ht1r:∀ i,RVo σ (t1.get i) (upd (fun i=>ys.getD i ZJ) d (.lit .nilIface) i):=fun i=>by
        rw [Tr.get_set _ _ _ _ _ ht1];simp only [upd];split
        ·rfl
        ·exact hfr i
       obtain ⟨g1,g2⟩:=Zji (A:=⟨upd (fun i=>ys.getD i ZJ) d (.lit .nilIface),[]⟩) ht1r ht2;exact Yq (ro:=none) hC hcall (fun _=>rfl) a' _ _ e hrun σ _ H _ ⟨g1,by show RDL σ [] _; exact g2,hr⟩ fin'
      ·cases hrun
     ·cases hrun
    ·exact ZdA hd hN (ZhY (Yq (ro:=none) hC hcall (fun _=>rfl) a _ _ e hrun σ _ H _ ⟨hfr,rfl,hr⟩ fin') mono)
   ·cases he
  ·cases he
 ·cases he
theorem ZaB (hC:CfgOk C) (hcall:JK C call) {rs:List ResultVar} {t:Tr EV} {K:VE→AH→Prop}:∀ (es:List ED) (h:Tr EB) (nx:Nat) (v:EV) (h':Tr EB) (nx':Nat),ZeX C call lim rs t es h nx=some (v,h',nx') →
 ∀ (σ:Sg) (ds:List Deferred) (tt:Nat→VV) (H:AH),(∀ i,RVo σ (t.get i) (tt i))→RDL σ es ds→HR C.P σ h H→EK C.P σ v h' K→XM C.P rs K tt ds .returning H
 | [],h,nx,v,h',nx',he,σ,ds,tt,H,ht,hd,hr,hK=>by
   simp only [ZeX] at he;split at he
   ·rename_i vs hv;simp only [Option.some.injEq,Prod.mk.injEq] at he;obtain ⟨rfl,rfl,_⟩:=he;simp only [RDL] at hd;subst hd;obtain ⟨xs,g1,g2⟩:=Zdm (A:=⟨tt,[]⟩) ht hr hv;exact ⟨tupV xs,H,tupV xs,by simp [resV,g1],GhV.refl _ _,hK σ H _ (Ext.refl σ) hr (ZoM g2)⟩
   ·cases he
 | .mark k::es,h,nx,v,h',nx',he,σ,ds,tt,H,ht,hd,hr,hK=>by
   simp only [ZeX] at he;split at he
   ·rename_i hk;split at he
    ·rename_i h1 hs1;obtain ⟨d,ds',rfl,⟨p,hp,rfl⟩,h2⟩:=hd;rcases hr.blk k _ hk with hdd | ⟨q,B,g1,g2,g3⟩
     ·cases hdd
     ·rw [hp] at g1; cases g1;have g3':B=.obj (.deferred (some [])):=g3;subst g3';refine ⟨by simp,g2,?_⟩;exact ZaB hC hcall es h1 nx v h' nx' he σ ds' tt _ ht h2 (hr.kill hk rfl hp hs1) hK
    ·cases he
   ·cases he
 | .fn f args cap::es,h,nx,v,h',nx',he,σ,ds,tt,H,ht,hd,hr,hK=>by
   simp only [ZeX] at he;split at he
   ·rename_i h1 nx1 hdf;obtain ⟨d,ds',rfl,⟨asg,cs,rfl,h1a,h1c⟩,h2⟩:=hd
    have hl:RVL σ (args++cap) ((asg.toArray++cs.toArray).toList.map .lit):=by
     simp only [Array.toList_append,List.map_append];exact h1a.append h1c
    obtain ⟨hen,hdc⟩:=ZkY (K:=fun e u' H'=>match e with | .ret _=>XM C.P rs K tt ds' (settle u') H' | .pan ch=>XM C.P rs K tt ds' (raised u' ch) H') hC hcall hdf hr hl
     fun σ' H' x hx hr'=>ZaB hC hcall es h1 nx1 v h' nx' he σ' ds' tt H' (fun i=>(ht i).mono hx) (h2.mono hx) hr' fun σ'' H'' y hx'=>hK σ'' H'' y (hx.trans hx')
    exact ⟨by simp,hen,_,H,GhL.refl _ _,hdc⟩
   ·cases he
theorem Zhu (hC:CfgOk C) (hcall:JK C call) {g:FuncId} {xs:List EV} {h h':Tr EB} {nx nx':Nat} {v:EV} (he:funE C call lim g xs h nx=some (v,h',nx')) {σ:Sg} {ys:List VV} {H:AH} {K:VE→AH→Prop} (hr:HR C.P σ h H) (hl:RVL σ xs ys)
 (hK:EK C.P σ v h' K):ZL C.P g=true∧ZU C.P g ys H K:=by
 unfold funE at he;split at he
 ·rename_i u hu;simp only [Option.some.injEq,Prod.mk.injEq] at he;obtain ⟨rfl,rfl,_⟩:=he;obtain ⟨m1,m2,m3,m4⟩:=hC.mm _ _ _ (Zht hu);obtain rfl:=RVL.vv_eq m2 hl;refine ⟨m1,(m4 H).mono ?_⟩;rintro e H' ⟨rfl,rfl⟩;exact hK σ H' _ (Ext.refl σ) hr (RV.vv u m3)
 rename_i hnm;clear hnm;split at he
 ·rename_i N rs a hf;obtain ⟨hd,hen⟩:=hC.ft g N rs a hf;have hq:=condS he;clear he;obtain ⟨hc,he⟩:=hq;have hN:ys.length≤N:=by rw [hl.length]; exact Zpr hc
  refine ⟨hen,?_⟩;split at he
  ·rename_i t ht;split at he
   ·rename_i e s hrun;refine ZcD hd hN (ZhY (Yq (ro:=none) hC hcall (fun _=>rfl) a _ _ e hrun σ _ H (fun e=>match e with | .ext _=>fun (A':AF) (H':AH)=>False | _=>fun A' H'=>XM C.P rs K A'.t A'.d .returning H') ⟨Zgd hl ht,rfl,hr⟩ ?_) ?_)
    ·intro σ' A' H' hx hra;cases e with
     | nrm=>exact ZaB hC hcall _ _ _ _ _ _ he σ' A'.d A'.t H' hra.t hra.d hra.h fun σ'' H'' y hx'=>hK σ'' H'' y (hx.trans hx')
     | ret=>exact ZaB hC hcall _ _ _ _ _ _ he σ' A'.d A'.t H' hra.t hra.d hra.h fun σ'' H'' y hx'=>hK σ'' H'' y (hx.trans hx')
     | ext i=>cases he
    ·intro e' A' H' hq;cases e' with
     | normal=>exact hq
     | ret=>exact hq
     | exit i=>exact hq.elim
     | goto l=>exact hq.elim
     | panic ch=>exact hq.elim
     | outgrown=>exact hq.elim
   ·cases he
  ·cases he
 ·cases he
theorem ZjI (hC:CfgOk C) (hcall:JK C call) {k:Nat} {xs:List EV} {h h':Tr EB} {nx nx':Nat} {v:EV} (he:Zne C call lim k xs h nx=some (v,h',nx')) {σ:Sg} {ys:List VV} {H:AH} {K:VE→AH→Prop} {p:Pay} {ro:Option Nat} (hp:σ k=some p) (hr:HR C.P σ h H) (hl:RVL σ xs ys)
 (hK:EK C.P σ v h' K):ACall C.P ro (.lit (.func (.yield p.r) #[] #[])) ys H K:=by
 unfold Zne at he;split at he
 ·rename_i j N t ps asg bd r hk;have hq:=condS he;clear he;obtain ⟨hc,he⟩:=hq;obtain ⟨hc1,hc2⟩:=cond3 hc;rcases hr.blk k _ hk with hdd | ⟨q,B,g1,g2,g3⟩
  ·cases hdd
  ·rw [hp] at g1; cases g1;obtain ⟨pe,qr,rfl,f1,f2,f3,f4,f5,f6⟩:=g3;split at he
   ·rename_i t1 ht1;split at he
    ·rename_i s1 hrun1;split at he
     ·rename_i j1 N1 t1' ps1 as1 bd1 r1 hk1;have hq:=condS he;clear he;obtain ⟨hsame1,he⟩:=hq;obtain ⟨rfl,rfl,rfl⟩:=ZcQ hsame1;split at he
      ·rename_i h2 hs2;split at he
       ·rename_i e s2 hrun2;split at he
        ·rename_i j2 N2 t2' ps2 as2 bd2 r2 hk2;have hq:=condS he;clear he;obtain ⟨hsame2,he⟩:=hq;obtain ⟨rfl,rfl,rfl⟩:=ZcQ hsame2;refine Zad (pe:=pe) g2 (by rw [hl.length]; exact Zpm hc1) (fun i hi=>?_) f5 ?_
         ·rw [List.all_eq_true] at hc2;exact Zpr (hc2 i hi)
         ·have hA:∀ σ1 A1 H1,Ext σ σ1→RA C.P σ1 s1 A1 H1→(∃ pe,H1 p.r=some (.loop .ready pe p.fn N2 p.t ps2 p.ca p.cb qr.r))∧∀ pe,AC ⟨C.P,N2,some p.r⟩ p.cb (ZmQ p.r p.fn N2 p.t ps2 p.ca p.cb qr.r K) A1 (H1.set p.r (.loop .busy pe p.fn N2 p.t ps2 p.ca p.cb qr.r)):=by
           intro σ1 A1 H1 hx1 hra1;rcases hra1.h.blk k _ hk1 with hdd | ⟨q1,B1,e1,e2,e3⟩
           ·cases hdd
           ·rw [hx1 _ _ hp] at e1; cases e1;obtain ⟨pe1,qr1,rfl,i1,_⟩:=e3;rw [hx1 _ _ f1] at i1; cases i1;refine ⟨⟨pe1,e2⟩,fun pe'=>?_⟩
            have hr2:=hra1.h.upd (b:=.loop .busy none N2 t ps2 asg bd r2) (B:=.loop .busy pe' p.fn N2 p.t ps2 p.ca p.cb qr.r) hk1 rfl (hx1 _ _ hp) hs2
             ⟨pe',qr,rfl,hx1 _ _ f1,fun h=>absurd rfl h,f3,f4,f5,fun i=>(f6 i).mono hx1⟩
            have hbody:=Yq (ro:=some p.r) hC hcall (fun h=>by cases h) bd _ _ e hrun2 σ1 A1 _ (fun e=>match e with
             | .nrm=>fun _ H=>(∃ pe,H p.r=some (.loop .busy pe p.fn N2 p.t ps2 p.ca p.cb qr.r))∧K (.ret (boolV true)) (H.set p.r (.loop .ready none p.fn N2 p.t ps2 p.ca p.cb qr.r))
             | .ret=>fun _ H=>(∃ pe,H p.r=some (.loop .busy pe p.fn N2 p.t ps2 p.ca p.cb qr.r))∧K (.ret (boolV false)) (H.set p.r (.loop .done (some .ret) p.fn N2 p.t ps2 p.ca p.cb qr.r))
             | .ext id=>fun _ H=>(∃ pe,H p.r=some (.loop .busy pe p.fn N2 p.t ps2 p.ca p.cb qr.r))∧K (.ret (boolV false)) (H.set p.r (.loop .done (some (.exit id)) p.fn N2 p.t ps2 p.ca p.cb qr.r))) ⟨hra1.t,hra1.d,hr2⟩ ?_
            ·refine AC.mono (hbody p.cb f4) ?_;intro e' A' H' hq;cases e' with
             | normal=>exact hq
             | ret=>exact hq
             | exit i=>exact hq
             | goto l=>exact hq.elim
             | panic ch=>exact hq.elim
             | outgrown=>exact hq.elim
            ·intro σ2 A2 H2 hx2 hra2;have hx:=hx1.trans hx2;rcases hra2.h.blk k _ hk2 with hdd | ⟨q2,B2,e1,e2',e3⟩
             ·cases hdd
             ·rw [hx _ _ hp] at e1; cases e1;obtain ⟨pe2,qr2,rfl,i1,_⟩:=e3;rw [hx _ _ f1] at i1; cases i1;cases e with
              | nrm =>
                dsimp only at he;split at he
                ·rename_i h3 hs3;simp only [Option.some.injEq,Prod.mk.injEq] at he;obtain ⟨rfl,rfl,_⟩:=he;exact ⟨⟨pe2,e2'⟩,hK σ2 _ _ hx (hra2.h.upd (B:=.loop .ready none p.fn N2 p.t ps2 p.ca p.cb qr.r) hk2 rfl (hx _ _ hp) hs3 ⟨none,qr,rfl,hx _ _ f1,fun _=>rfl,f3,f4,f5,fun i=>(f6 i).mono hx⟩) rfl⟩
                ·cases he
              | ret =>
                dsimp only at he;split at he
                ·rename_i h3 hs3;simp only [Option.some.injEq,Prod.mk.injEq] at he;obtain ⟨rfl,rfl,_⟩:=he;exact ⟨⟨pe2,e2'⟩,hK σ2 _ _ hx (hra2.h.upd (B:=.loop .done (some .ret) p.fn N2 p.t ps2 p.ca p.cb qr.r) hk2 rfl (hx _ _ hp) hs3 ⟨some .ret,qr,rfl,hx _ _ f1,fun _=>rfl,f3,f4,f5,fun i=>(f6 i).mono hx⟩) rfl⟩
                ·cases he
              | ext id =>
                dsimp only at he;split at he
                ·rename_i h3 hs3;simp only [Option.some.injEq,Prod.mk.injEq] at he;obtain ⟨rfl,rfl,_⟩:=he;exact ⟨⟨pe2,e2'⟩,hK σ2 _ _ hx (hra2.h.upd (B:=.loop .done (some (.exit id)) p.fn N2 p.t ps2 p.ca p.cb qr.r) hk2 rfl (hx _ _ hp) hs3 ⟨some (.exit id),qr,rfl,hx _ _ f1,fun _=>rfl,f3,f4,f5,fun i=>(f6 i).mono hx⟩) rfl⟩
                ·cases he
          have hass:=Yq (ro:=some p.r) hC hcall (fun h=>by cases h) asg _ _ .nrm hrun1 σ ⟨Zat ps2.toList ys p.t,[]⟩ H (onN (fun _ _ _=>False) (fun A1 H1=>(∃ pe,H1 p.r=some (.loop .ready pe p.fn N2 p.t ps2 p.ca p.cb qr.r))∧∀ pe,AC ⟨C.P,N2,some p.r⟩ p.cb (ZmQ p.r p.fn N2 p.t ps2 p.ca p.cb qr.r K) A1 (H1.set p.r (.loop .busy pe p.fn N2 p.t ps2 p.ca p.cb qr.r))))
           ⟨ZeP hl f6 ht1,rfl,hr⟩ hA
          refine AC.mono (hass p.ca f3) ?_;intro e' A' H' hq;cases e' with
          | normal=>exact hq
          | ret=>exact hq.elim
          | exit i=>exact hq.elim
          | goto l=>exact hq.elim
          | panic ch=>exact hq.elim
          | outgrown=>exact hq.elim
        ·cases he
       ·cases he
      ·cases he
     ·cases he
    ·cases he
   ·cases he
 ·cases he
theorem ZhZ (hC:CfgOk C) (lim:Nat):∀ n,JK C (callE C lim n)
 | 0=>fun f xs h nx v h' nx' he=>by simp only [callE] at he; cases he
 | n+1=>fun f xs h nx v h' nx' he σ H f' xs' ro K hr hf hl hK=>by
   simp only [callE] at he;have ih:=ZhZ hC lim n;split at he
   ·rename_i g first cap;obtain ⟨asg,bs,rfl,h1,h2⟩:=hf;exact Zhu hC ih he hr ((h1.append hl).append h2) hK
   ·rename_i g a b;obtain rfl:=hf;exact Zhu hC ih he hr (((RVL.lits _).append hl).append (RVL.lits _)) hK
   ·rename_i k;obtain ⟨p,hp,rfl⟩:=hf;exact ZjI (ro:=ro) hC ih he hp hr hl hK
   ·cases he
theorem ZeQ {P:Program} {f:FuncId} {xs:List VV} {X:VV} (h:ZU P f xs AH.nil (fun e H'=>∃ x H'',e=.ret x∧GhV H' x H'' X)):PureF P f xs X:=by
 intro H S w args hs hx;have hs0:=hs.sub (SubH.nil H);refine CallsIn.mono (h S w args hs0.1 hx) ?_;intro e w' hq;cases e with
 | returned u =>
   obtain ⟨S0,H0,x,j1,j2,j3,x',H1,e,hg⟩:=hq;cases e;obtain ⟨S',q1,q2,k3⟩:=hg S0 w' u j2 j3;have k1:=j1.trans q1;have hfr:∀ r,r<w.heap.size→w'.heap[r]?=w.heap[r]?:=fun r hr=>k1.fr r hr rfl
   have hS':∀ r,S' r→S r∨w.heap.size≤r:=fun r hr=>by
    rcases k1.snew r hr with h | h | h
    ·exact .inl h
    ·exact absurd rfl h
    ·exact .inr h
   refine ⟨fun r=>S r∨S' r,H,X,⟨k1.os,k1.tape,k1.output,k1.size,fun _ h=>.inl h,fun r hr _=>hfr r hr,fun r hr=>.inl hr,fun r h=>h.elim .inl fun h=>(hS' r h).elim .inl fun h=>.inr (.inr h)⟩,⟨fun r b hb=>?_,fun r b hb hsr=>?_,fun r hr=>?_⟩,?_,rfl,rfl⟩
   ·exact (hs.blk r b hb).mono (fun i hi=>⟨.inl hi,hfr i (hs.lt i hi)⟩) (hfr r (hs.lt_of hb))
   ·rcases hsr with h | h
    ·exact hs.dis r b hb h
    ·rcases hS' r h with h | h
     ·exact hs.dis r b hb h
     ·have:=hs.lt_of hb; omega
   ·rcases hr with h | h
    ·exact Nat.lt_of_lt_of_le (hs.lt r h) k1.size
    ·exact q2.lt r h
   ·exact Rv.mono (fun r h=>⟨.inr h,rfl⟩) _ _ k3
 | panicked ch=>obtain ⟨S',H',k1,k2,x,H1,k3,_⟩:=hq; cases k3
 | outgrown=>exact hq.elim
def ZnY (r:Option HN) (w:EV):Bool:=match r with | some (v,h,_)=>(match YQ v h with | some (u,_)=>beqEV u w | none=>false) | none=>false
theorem ZfY (hC:CfgOk C) (f:FuncId) (xs:List EV) (w:EV) (lim n:Nat) (hxs:Xe xs=true) (h:ZnY (callE C lim n (.lit (.func (.func f) #[] #[])) xs .lf 0) w=true):ZL C.P f=true∧Xe xs=true∧w.closedB=true∧PureF C.P f (vvL xs) w.vv:=by
 unfold ZnY at h;split at h
 ·rename_i v h' nx' he;split at h
  ·rename_i u h2 hfz;obtain rfl:=Zaf _ _ h;have hnil:HR C.P (fun _=>none) .lf AH.nil:=⟨fun k b hb=>(by simp [Tr.get] at hb),fun k k' b b' p p' hb=>(by simp [Tr.get] at hb),fun _ _=>rfl⟩
   have:=ZhZ hC lim n _ _ _ _ _ _ _ he (fun _=>none) AH.nil (.lit (.func (.func f) #[] #[])) (vvL xs) none (fun e H'=>∃ x H'',e=.ret x∧GhV H' x H'' u.vv∧u.closedB=true)
    hnil rfl (RVL.vv xs hxs) (fun σ' H' x _ hr hx=>by
     obtain ⟨H2,g1,_,g3⟩:=Zd0 v h' u h2 hfz H' x hr hx;exact ⟨x,H2,rfl,g1,g3⟩)
   rw [YX] at this;have hcl:u.closedB=true:=(ZcF _ _ _ _ hfz)
   exact ⟨this.1,hxs,hcl,ZeQ (this.2.mono fun e H' ⟨x,H'',e1,g,_⟩=>⟨x,H'',e1,g⟩)⟩
  ·cases h
 ·cases h
def trueB (r:Option HN):Bool:=match r with | some (.lit (.bool true),_,_)=>true | _=>false
theorem reckoned (hC:CfgOk C) (f:FuncId) (lim n:Nat) (h:trueB (callE C lim n (.lit (.func (.func f) #[] #[])) [] .lf 0)=true):PureF C.P f [] (boolV true):=by
 unfold trueB at h;split at h
 ·rename_i h' nx' he
  have:=ZhZ hC lim n _ _ _ _ _ _ _ he (fun _=>none) AH.nil (.lit (.func (.func f) #[] #[])) [] none (fun e H'=>∃ x H'',e=.ret x∧GhV H' x H'' (boolV true))
   ⟨fun k b hb=>(by simp [Tr.get] at hb),fun k k' b b' p p' hb=>(by simp [Tr.get] at hb),fun _ _=>rfl⟩ rfl rfl (fun σ' H' x _ _ hx=>⟨x,H',rfl,by rw [show x=_ from hx]; exact GhV.refl _ _⟩)
  rw [YX] at this;exact ZeQ this.2
 ·cases h
end
end Go.PV
end
section
open List renaming mem_cons_of_mem→Zqe
open Nat renaming ble→Zpq
namespace Go.PV
def ofT {α:Type}:List (Nat × α)→Tr α→Tr α
 | [],t=>t
 | (k,x)::l,t=>match Tr.set 20 t k x with
   | some t'=>ofT l t'
   | none=>ofT l t
theorem Zh0 {α:Type}:∀ (l:List (Nat × α)) (t:Tr α) {f:Nat} {x:α},(ofT l t).get f=some x→(f,x)∈l∨t.get f=some x
 | [],t,f,x,h=>.inr h
 | (k,y)::l,t,f,x,h=>by
   simp only [ofT] at h;split at h
   ·rename_i t' ht;rcases Zh0 l t' h with h1 | h1
    ·exact .inl (Zqe _ h1)
    ·rw [Tr.get_set _ _ _ _ _ ht] at h1;split at h1
     ·rename_i e; cases h1; subst e; exact .inl (List.mem_cons_self ..)
     ·exact .inr h1
   ·rcases Zh0 l t h with h1 | h1
    ·exact .inl (Zqe _ h1)
    ·exact .inr h1
theorem ofT_get {α:Type} {f:Nat} {x:α} (l:List (Nat × α)) (t:Tr α) (h:(ofT l .lf).get f=some x):(f,x)∈l:=by
 rcases Zh0 l .lf h with h | h
 ·exact h
 ·simp [Tr.get] at h
def methB (P:Program) (t:TypeId) (name:String):Option (Bool × Option (FuncId × Bool)) :=
 match P.info? t with
 | some i=>(match i.methods.find? (·.name == name) with | some m=>some (m.path.toList.isEmpty,m.func) | none=>none)
 | none=>none
def notPtr (P:Program) (t:TypeId):Bool:=match P.underlying t with | some (.pointer _)=>false | some _=>true | none=>false
theorem ZaE {P:Program} {t:TypeId} {name:String} {f:FuncId} {fuel:Nat} (hn:Zpq 1 fuel=true) (hm:methB P t name=some (true,some (f,false))) (hu:notPtr P t=true) (z:Value) (w:World) :
 (method fuel t z name).run P w=.ok (f,z) w:=by
 cases fuel with
 | zero=>cases hn
 | succ n =>
   unfold methB at hm;split at hm
   ·rename_i i hi;split at hm
    ·rename_i m hm1;simp only [Option.some.injEq,Prod.mk.injEq] at hm;obtain ⟨hp,hf⟩:=hm;have hp':m.path.toList=[]:=by simpa using hp
     unfold notPtr at hu;split at hu
     ·cases hu
     ·rename_i d hnp hd
      have hr:∀ wr,(receiverAt t (.val z) false wr).run P w=.ok z w:=by
       intro wr;unfold receiverAt;rw [Sem.run_bind,run_underlying hd];cases d<;>first | (exact absurd rfl (hnp _)) | simp [Place.get]
      unfold method;simp [typeInfo,hi,hm1,hp',follow,hf,hr]
     ·cases hu
    ·cases hm
   ·cases hm
def Cfg.withM (C:Cfg) (m:List (FuncId × List EV × EV)):Cfg:={ C with mm:=m }
theorem CfgOk.withM {C:Cfg} (h:CfgOk C) {m:List (FuncId × List EV × EV)} (hm:∀ g ys v,(g,ys,v)∈m→ZL C.P g=true∧Xe ys=true∧v.closedB=true∧PureF C.P g (vvL ys) v.vv):CfgOk (C.withM m) :=
 ⟨h.ft,h.mt,h.im,h.mixed,hm⟩
end Go.PV
end
section
open Nat renaming beq→Zpj,eq_of_beq_eq_true→Zpm
set_option maxRecDepth 100000
namespace Go.PV.Ytglpmlbbaedbiaa
open Go Go.Proofs Go.Maps
noncomputable def tab:List (Nat × (Nat × List ResultVar × ACode)):=[(9,(80,[(.tmp 0)],c9)),
 (25,(59,[(.cell 6 74),(.cell 7 35)],c25)),
 (30,(5,[(.cell 2 34)],c30)),
 (31,(8,[(.cell 4 34)],c31)),
 (32,(10,[(.cell 4 34)],c32)),
 (43,(35,[(.cell 4 115),(.tmp 5)],c43)),
 (44,(19,[],c44)),
 (45,(70,[(.tmp 6)],c45)),
 (46,(61,[],c46)),
 (47,(36,[(.cell 2 34)],c47)),
 (51,(31,[(.tmp 2),(.tmp 3)],c51)),
 (58,(95,[(.tmp 2)],c58)),
 (59,(44,[(.cell 2 115)],c59)),
 (60,(109,[(.tmp 6)],c60)),
 (61,(23,[(.tmp 3)],c61)),
 (62,(21,[(.tmp 4)],c62)),
 (63,(56,[(.tmp 6)],c63)),
 (64,(86,[(.tmp 6)],c64)),
 (65,(16,[],c65)),
 (66,(53,[],c66)),
 (77,(38,[(.tmp 2)],c77)),
 (78,(25,[(.tmp 2)],c78)),
 (79,(8,[(.tmp 4)],c79)),
 (80,(8,[(.tmp 4)],c80)),
 (81,(72,[(.tmp 6)],c81)),
 (82,(9,[(.tmp 4)],c82)),
 (83,(36,[],c83)),
 (84,(69,[(.tmp 6),(.tmp 7)],c84)),
 (85,(19,[(.tmp 6)],c85)),
 (86,(8,[(.tmp 2)],c86)),
 (88,(17,[(.tmp 2)],c88)),
 (89,(9,[(.tmp 4)],c89)),
 (90,(23,[(.tmp 2)],c90)),
 (91,(9,[(.tmp 2)],c91)),
 (92,(19,[(.tmp 4)],c92)),
 (93,(8,[(.tmp 3)],c93)),
 (94,(19,[(.tmp 4)],c94)),
 (95,(8,[(.tmp 3)],c95)),
 (96,(76,[(.cell 4 35)],c96)),
 (97,(27,[(.tmp 2)],c97)),
 (98,(30,[(.tmp 2),(.tmp 3)],c98)),
 (99,(88,[(.tmp 6)],c99)),
 (100,(19,[(.tmp 4)],c100)),
 (101,(19,[(.tmp 4)],c101)),
 (102,(18,[(.tmp 2)],c102)),
 (103,(8,[],c103)),
 (105,(19,[(.tmp 4)],c105)),
 (106,(4,[(.tmp 2)],c106)),
 (107,(6,[(.tmp 2)],c107)),
 (108,(5,[(.tmp 2)],c108)),
 (109,(45,[(.tmp 2)],c109)),
 (110,(17,[(.tmp 4)],c110)),
 (111,(8,[],c111)),
 (112,(19,[(.tmp 6)],c112)),
 (113,(9,[(.tmp 4)],c113)),
 (114,(11,[(.tmp 4)],c114)),
 (115,(19,[(.tmp 4)],c115)),
 (132,(3,[(.tmp 2)],c132)),
 (133,(11,[(.tmp 2)],c133)),
 (134,(7,[(.tmp 2)],c134))]
noncomputable def ftab:Tr (Nat × List ResultVar × ACode):=ofT tab .lf
noncomputable def mtab:TypeId→Option Value:=fun t=>cond (Zpj t 112) (some (.pointer none)) (cond (Zpj t 113) (some (.int .i64 0)) (cond (Zpj t 138) (some (.bool false)) (none)))
noncomputable def itab:TypeId→String→Option FuncId:=fun t m=>cond (decide (m = "triforium/evaluate.nodes")) (cond (Zpj t 155) (some 132) (cond (Zpj t 158) (some 133) (cond (Zpj t 161) (some 134) (none)))) none
noncomputable def CC:Cfg:={ P:=Try.prog,ft:=ftab.get,mt:=mtab,im:=itab,mm:=[] }
theorem mapT112:MapT Try.prog 112 (.pointer none):=⟨9,156,by kernel_rfl,string_keyed (by kernel_rfl),by kernel_rfl⟩
theorem mapT113:MapT Try.prog 113 (.int .i64 0):=⟨9,3,by kernel_rfl,string_keyed (by kernel_rfl),by kernel_rfl⟩
theorem mapT138:MapT Try.prog 138 (.bool false):=⟨9,4,by kernel_rfl,string_keyed (by kernel_rfl),by kernel_rfl⟩
theorem meth155 (z:Value) (w:World):(method (Try.prog.types.size+Made.depth) 155 z "triforium/evaluate.nodes").run Try.prog w=.ok (132,z) w:=ZaE (by kernel_rfl) (by kernel_rfl) (by kernel_rfl) z w
theorem meth158 (z:Value) (w:World):(method (Try.prog.types.size+Made.depth) 158 z "triforium/evaluate.nodes").run Try.prog w=.ok (133,z) w:=ZaE (by kernel_rfl) (by kernel_rfl) (by kernel_rfl) z w
theorem meth161 (z:Value) (w:World):(method (Try.prog.types.size+Made.depth) 161 z "triforium/evaluate.nodes").run Try.prog w=.ok (134,z) w:=ZaE (by kernel_rfl) (by kernel_rfl) (by kernel_rfl) z w
theorem en_132:ZL Try.prog 132=true:=by kernel_rfl
theorem en_133:ZL Try.prog 133=true:=by kernel_rfl
theorem en_134:ZL Try.prog 134=true:=by kernel_rfl
theorem CCok:CfgOk CC where
 ft f N rs a h:=by
  have hm:=ofT_get tab .lf h
  have hall:∀ x∈tab,FnD Try.prog x.1 x.2.1 x.2.2.1 x.2.2.2∧ZL Try.prog x.1=true:=by
   simp only [tab,List.forall_mem_cons];exact ⟨⟨fd9,en_9⟩,⟨fd25,en_25⟩,⟨fd30,en_30⟩,⟨fd31,en_31⟩,⟨fd32,en_32⟩,⟨fd43,en_43⟩,⟨fd44,en_44⟩,⟨fd45,ZoP⟩,⟨fd46,ZoQ⟩,⟨fd47,en_47⟩,⟨fd51,ZlN⟩,⟨fd58,ZlO⟩,⟨fd59,en_59⟩,⟨fd60,en_60⟩,⟨fd61,en_61⟩,⟨fd62,ZoR⟩,⟨fd63,en_63⟩,⟨fd64,en_64⟩,⟨fd65,ZoS⟩,⟨fd66,en_66⟩,⟨fd77,en_77⟩,⟨fd78,Ze2⟩,⟨fd79,Zaw⟩,⟨fd80,Zd6⟩,⟨fd81,en_81⟩,⟨fd82,ZoT⟩,⟨fd83,ZlQ⟩,⟨fd84,ZlR⟩,⟨fd85,en_85⟩,⟨fd86,en_86⟩,⟨fd88,ZoU⟩,⟨fd89,en_89⟩,⟨fd90,en_90⟩,⟨fd91,en_91⟩,⟨fd92,en_92⟩,⟨fd93,en_93⟩,⟨fd94,en_94⟩,⟨fd95,en_95⟩,⟨fd96,en_96⟩,⟨fd97,en_97⟩,⟨fd98,en_98⟩,⟨fd99,en_99⟩,⟨fd100,ZmM⟩,⟨fd101,en_101⟩,⟨fd102,ZeT⟩,⟨fd103,en_103⟩,⟨fd105,en_105⟩,⟨fd106,Zkf⟩,⟨fd107,Zdw⟩,⟨fd108,Zik⟩,⟨fd109,Zbl⟩,⟨fd110,ZeU⟩,⟨fd111,en_111⟩,⟨fd112,Zil⟩,⟨fd113,Zim⟩,⟨fd114,ZmN⟩,⟨fd115,en_115⟩,⟨fd132,en_132⟩,⟨fd133,en_133⟩,⟨fd134,en_134⟩,fun x hx=>by cases hx⟩
  exact hall _ hm
 mt t z h:=by
  simp only [CC,mtab] at h;rcases condC h with ⟨hb,h⟩ | ⟨_,h⟩
  ·rw [Zpm hb]; cases h; exact mapT112
  rcases condC h with ⟨hb,h⟩ | ⟨_,h⟩
  ·rw [Zpm hb]; cases h; exact mapT113
  rcases condC h with ⟨hb,h⟩ | ⟨_,h⟩
  ·rw [Zpm hb]; cases h; exact mapT138
  cases h
 im t m g h:=by
  simp only [CC,itab] at h;have hq:=condS h;clear h;obtain ⟨hm,h⟩:=hq;obtain rfl:=of_decide_eq_true hm;rcases condC h with ⟨hb,h⟩ | ⟨_,h⟩
  ·rw [Zpm hb]; cases h; exact meth155
  rcases condC h with ⟨hb,h⟩ | ⟨_,h⟩
  ·rw [Zpm hb]; cases h; exact meth158
  rcases condC h with ⟨hb,h⟩ | ⟨_,h⟩
  ·rw [Zpm hb]; cases h; exact meth161
  cases h
 mixed:=mixed
 mm _ _ _ h:=by cases h
end Go.PV.Ytglpmlbbaedbiaa
end
section
set_option maxRecDepth 100000
namespace Go.PV.Ytglpmlbbaedbiaa
open Go Go.Proofs
def xmP:EV:=(.agg [(.isl true 2 [(.lit (.string ⟨#[90,101,114,111]⟩)),(.lit (.int .i64 0)),(.lit (.string ⟨#[83,117,99]⟩)),(.lit (.int .i64 1))]),(.isl true 1 [(.lit (.string ⟨#[97,100,100]⟩)),(.lit (.int .i64 2)),(.isl true 2 [(.isl true 2 [(.lit (.bool true)),(.lit (.string ⟨#[90,101,114,111]⟩)),(.lit (.slice none 0 0)),(.lit (.bool false)),(.lit (.string ⟨#[121]⟩)),(.lit (.slice none 0 0))]),(.lit (.int .i64 1)),(.lit (.string ⟨#[121]⟩)),(.lit (.slice none 0 0)),(.isl true 2 [(.lit (.bool true)),(.lit (.string ⟨#[83,117,99]⟩)),(.isl true 1 [(.lit (.bool false)),(.lit (.string ⟨#[120]⟩)),(.lit (.slice none 0 0))]),(.lit (.bool false)),(.lit (.string ⟨#[121]⟩)),(.lit (.slice none 0 0))]),(.lit (.int .i64 3)),(.lit (.string ⟨#[83,117,99]⟩)),(.isl true 1 [(.lit (.int .i64 4)),(.lit (.string ⟨#[]⟩)),(.isl true 3 [(.lit (.int .i64 2)),(.lit (.string ⟨#[97,100,100]⟩)),(.lit (.slice none 0 0)),(.lit (.int .i64 1)),(.lit (.string ⟨#[120]⟩)),(.lit (.slice none 0 0)),(.lit (.int .i64 1)),(.lit (.string ⟨#[121]⟩)),(.lit (.slice none 0 0))])])])])])
def xmE:EV:=(.agg [(.lit (.int .i64 4)),(.lit (.string ⟨#[]⟩)),(.isl true 3 [(.lit (.int .i64 2)),(.lit (.string ⟨#[97,100,100]⟩)),(.lit (.slice none 0 0)),(.lit (.int .i64 3)),(.lit (.string ⟨#[83,117,99]⟩)),(.isl true 1 [(.lit (.int .i64 3)),(.lit (.string ⟨#[90,101,114,111]⟩)),(.lit (.slice none 0 0))]),(.lit (.int .i64 3)),(.lit (.string ⟨#[90,101,114,111]⟩)),(.lit (.slice none 0 0))])])
theorem check_ex:ZL Try.prog 58=true∧Xe [xmP]=true∧(EV.lit (.int .i64 0)).closedB=true∧PureF Try.prog 58 (vvL [xmP]) (iV 0):=ZfY CCok 58 [xmP] (.lit (.int .i64 0)) 500 100 (by kernel_rfl) (by kernel_rfl)
theorem size_ex:ZL Try.prog 51=true∧Xe [xmE]=true∧(EV.tuple [.lit (.int .i64 5),.lit (.int .i64 3)]).closedB=true∧PureF Try.prog 51 (vvL [xmE]) (EV.tuple [.lit (.int .i64 5),.lit (.int .i64 3)]).vv:=ZfY CCok 51 [xmE] (.tuple [.lit (.int .i64 5),.lit (.int .i64 3)]) 500 100 (by kernel_rfl) (by kernel_rfl)
noncomputable def C1:Cfg:=CC.withM [(58,[xmP],.lit (.int .i64 0)),(51,[xmE],.tuple [.lit (.int .i64 5),.lit (.int .i64 3)])]
theorem C1ok:CfgOk C1:=CCok.withM fun g ys v h=>by
 simp only [List.mem_cons,Prod.mk.injEq,List.not_mem_nil,or_false] at h;rcases h with ⟨rfl,rfl,rfl⟩ | ⟨rfl,rfl,rfl⟩
 ·exact check_ex
 ·exact size_ex
def xmR:EV:=(.tuple [(.agg [(.lit (.int .i64 3)),(.lit (.string ⟨#[83,117,99]⟩)),(.isl false 1 [(.lit (.int .i64 3)),(.lit (.string ⟨#[90,101,114,111]⟩)),(.lit (.slice none 0 0))]),(.lit (.int .i64 2))]),(.lit (.int .i64 0))])
theorem run_ex:ZL Try.prog 25=true∧Xe [xmP,xmE,.lit (.int .i64 10)]=true∧xmR.closedB=true∧PureF Try.prog 25 (vvL [xmP,xmE,.lit (.int .i64 10)]) xmR.vv:=ZfY C1ok 25 [xmP,xmE,.lit (.int .i64 10)] xmR 500 100 (by kernel_rfl) (by kernel_rfl)
noncomputable def C2:Cfg:=CC.withM [(25,[xmP,xmE,.lit (.int .i64 10)],xmR)]
theorem C2ok:CfgOk C2:=CCok.withM fun g ys v h=>by
 simp only [List.mem_cons,Prod.mk.injEq,List.not_mem_nil,or_false] at h;obtain ⟨rfl,rfl,rfl⟩:=h;exact run_ex
theorem awake9:PureF Try.prog 9 [] (boolV true):=reckoned C2ok 9 500 100 (by kernel_rfl)
end Go.PV.Ytglpmlbbaedbiaa
end
section
open List renaming append_nil→Zp2
open Nat renaming le_refl→Zpl
set_option maxRecDepth 20000
namespace Go.Proofs.Ytglpmlbbaedbiaa
open Go.ChangeShapes Go.WideShapes Go.RowKit Go.PV Go.PV.Ytglpmlbbaedbiaa
theorem Zix (H:Type) (enc:TypeId × Value→H) (W:World) (base:Nat) (args:Array Value) (ds gs:List (DataW H)) (before:List MemPlace)
 (hval:∀ (j:Nat) t v,Try.f5.params[j]?=some t→args[j]?=some v→Value.okWide Try.prog W .any base t v)
 (hW:DataW.Whole enc Try.prog Try.f5.params.toList Rows.evaluateStepSpec.vars false W args.toList ds gs before) (hk:Rows.uptoSmall H (ds++gs)=true) :
 Calls Try.prog 5 args W fun e W'=>∃ v,e=.returned v∧Rows.evaluateStepSpec.post enc Try.prog Try.f5 false true false false W args v W':=by
 have hW':=hW;obtain ⟨p,q,hA0,hV,rfl,hfz,hnd⟩:=hW;have hA:DataW.TrodAll enc Try.prog W 0 (fun _=>true) true Try.f5.params.toList args.toList ds p:=hA0;rw [Try.params5] at hA hval;obtain ⟨v0,vs0,d0,ds0,p0,q0,hargs,rfl,rfl,h0,r0⟩:=trodAll_cons hA;obtain ⟨v1,vs1,d1,ds1,p1,q1,rfl,rfl,rfl,h1,r1⟩:=trodAll_cons r0;obtain ⟨rfl,rfl,rfl⟩:=trodAll_nil r1;obtain rfl:args=#[v0,v1]:=by cases args; simp_all
 obtain ⟨rfl,rfl⟩:=trodVars_none hV;have hb:=small_of hk;simp only [Zp2,bulkA] at hb;obtain ⟨p,_,m0,a0⟩:=ZiU (rdPr _) h0 (Zpl _);obtain ⟨e,_,m1,a1⟩:=ZiU (rdEx _ _ (Zpl _)) h1 (Zpl _);have b0:=rv_agg a0 (ZeH Try.underlying71 (hval 0 71 v0 rfl rfl));have b1:=rv_agg a1 (ZeH Try.underlying28 (hval 1 28 v1 rfl rfl));have b1:Rv (old W) W (exV e) v1:=by rw [WU] at b1; exact b1
 have hp:PureF Try.prog 5 [prV p,exV e] (boolV true):=estep_ok p e (by omega) (by omega) awake9;exact Zl2 (xs:=[prV p,exV e]) laidOut (by kernel_rfl) (tb:=4) (by kernel_rfl) Try.underlying4 rfl hW' rfl ⟨_,_,rfl,b0,_,_,rfl,b1,rfl⟩ hp
set_option maxRecDepth 100000 in
theorem ZkZ (os:Os) (started:os.Started) (H:Type) (enc:TypeId × Value→H) (F:Stop.Interp) :
 ReturnsInHanded {} Try.checked os 5 .any ((Rows.OpenSpec.upto Rows.evaluateStepSpec).pre6 enc Try.prog Try.f5 Rows.evaluateStepUptoRow.domain false) (((Rows.OpenSpec.upto Rows.evaluateStepSpec).at F).post enc Try.prog Try.f5 false true false false):=by
 refine returnsInHanded_of_cond (C:=Try.checked) (s:=Rows.OpenSpec.upto Rows.evaluateStepSpec) (k:=Rows.uptoSmall) rfl own started (by kernel_rfl) Try.func5
  (OpenSpec.witness (enc:=enc) (C:=Try.checked) (s:=Rows.OpenSpec.upto Rows.evaluateStepSpec) (k:=Rows.uptoSmall) rfl false ⟨#[],#[.agg #[.slice none 0 0,.slice none 0 0],.agg #[.int .i64 0,.string .empty,.slice none 0 0]],[]⟩ 8 (by kernel_rfl) (by kernel_rfl) (by kernel_rfl)
    (x:=([.agg [.nil,.nil],.agg [.lit (.int .i64 0),.lit (.string []),.nil]],[],[])) (by kernel_rfl) rfl (by kernel_rfl)) ?_
 intro W base args ds gs before hval hW _ hk _;exact Zix H enc W base args ds gs before hval hW hk
theorem evaluateStep:Rows.EvaluateStepUptoSaid :=
 OpenClaim.holds_of_cond 5 Try.f5 rfl rfl rfl rfl rfl rfl rfl ⟨rfl,rfl,rfl,rfl,rfl⟩ rfl rfl rfl rfl rfl (by kernel_rfl) Try.func5 (by kernel_rfl)
  (of_decide_eq_true (by kernel_rfl)) (by unfold Func.isWrapper; first | (rw [if_pos (by decide +kernel)]; kernel_rfl) | (rw [if_neg (by decide +kernel)]; exact ⟨rfl,rfl⟩))
  (fun os started H enc _ F=>ZkZ os started H enc F)
#print axioms evaluateStep
end Go.Proofs.Ytglpmlbbaedbiaa
end
