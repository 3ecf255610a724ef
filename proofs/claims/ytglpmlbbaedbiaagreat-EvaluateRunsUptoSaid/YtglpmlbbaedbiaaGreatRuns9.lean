/- Part 9 of 11 of what the proof of Runs needs. -/
import Derived.Test.YtglpmlbbaedbiaaGreatRuns6
import Derived.Test.YtglpmlbbaedbiaaGreatRuns5
import Derived.Test.YtglpmlbbaedbiaaGreatRuns8
import Derived.Test.YtglpmlbbaedbiaaGreatRuns7
set_option linter.unusedVariables false
set_option linter.unusedSimpArgs false
set_option linter.defProp false
section
open Bool renaming and_eq_true→ZqA
open Go.PV.Hold renaming mk→ZpM
open Go.PV.PureF renaming forget→Zp4
open Go.PV.SubH renaming refl→ZpN
open Int renaming reduceEq→Zp5
open List renaming getElem_mem→ZpW,getElem?_eq_getElem→ZqC
open Nat renaming reduceEqDiff→ZpI,reduceLT→ZpJ,lt_or_ge→Zqm
set_option maxRecDepth 20000
set_option maxHeartbeats 8000000
namespace Go.PV.YtglpmlbbaedbiaaGreat
open Go Go.Proofs
def firN (n:Int):Bool:=letN n || decide (n=95)
def okN (i:Nat) (n:Int):Bool:=firN n || (decide (0<i) && (digN n || decide (n=39) || decide (n=46)))
theorem Zl4 (n:Int):badN n=!(firN n || (digN n || decide (n=39) || decide (n=46))):=by
 unfold badN firN;cases letN n<;>cases digN n<;>simp<;>by_cases h1:n=95<;>by_cases h2:n=39<;>by_cases h3:n=46<;>simp [h1,h2,h3]
theorem Zo8 (b:ByteArray):nameB b=true↔1≤b.size∧b.size≤40∧∀ i (h:i<b.data.toList.length),okN i (b.data.toList[i].toNat:Int)=true:=by
 have hl:b.size=b.data.toList.length:=by simp
 unfold nameB;cases hd:b.data.toList with
 | nil=>rw [hl,hd]; simp
 | cons c l =>
   rw [hl,hd];simp only [ZqA,decide_eq_true_eq,Bool.not_eq_true',List.any_eq_false]
   constructor
   ·rintro ⟨⟨h1,h2⟩,h3⟩;refine ⟨by simp,h1,fun i h=>?_⟩;cases i with
    | zero=>unfold okN firN; simp only [List.getElem_cons_zero]; rw [h2]; rfl
    | succ i =>
      have:=h3 ((c::l)[i+1]) (ZpW h)
      rw [Zl4] at this;unfold okN;cases hf:firN ((c::l)[i+1].toNat:Int) with
      | true=>simp
      | false =>
        rw [hf] at this;simp only [Bool.false_or] at this;simp only [Bool.not_eq_true,Bool.not_eq_false'] at this;rw [this]; simp
   ·rintro ⟨_,h2,h3⟩;refine ⟨⟨h2,?_⟩,fun x hx=>?_⟩
    ·have:=h3 0 (by simp)
     unfold okN firN at this;simpa using this
    ·obtain ⟨i,hi,rfl⟩:=List.mem_iff_getElem.1 hx
     have:=h3 i hi
     unfold okN at this;rw [Zl4];cases hf:firN ((c::l)[i].toNat:Int) with
     | true=>simp
     | false =>
       rw [hf] at this;simp only [Bool.false_or,ZqA,decide_eq_true_eq] at this;rw [this.2]; simp
theorem Zf3 (b:ByteArray) (hb:b.size≤1099511627776):PureF Tryz.prog 87 [.lit (.string b)] (boolV (nameB b)):=by
 refine Zp4 fun H=>?_
 refine ZE fd87 (by simp) ?_;delta c87 Zq Za Ze Zm Zp Zr Zf;have hl:b.data.toList.length=b.size:=by simp
 have hu1:(Tryz.prog).underlying 9=some .string:=Tryz.underlying9;obtain ⟨R,hR⟩:∃ R,R=nameB b:=⟨_,rfl⟩
 rw [← hR];have hRi:=Zo8 b;rw [← hR] at hRi;replace hR:=ZpM hR;replace hRi:=ZpM hRi
 have hfal:(¬ (1≤b.size∧b.size≤40))→R=false:=fun h=>by
  cases hr:R with
  | false=>rfl
  | true=>rw [hr] at hRi; have:=hRi.out.1 rfl; exact absurd ⟨this.1,this.2.1⟩ h
 by_cases h1:(b.size:Int)<1
 ·have e:=ZpM (hfal (by omega));clear hfal
  (repeat' (first | (simp only [↓Zz,ZA,intV,boolV,ZpI,ZpJ,reduceCtorEq,ZN,ZD,undef, *]) | (refine ZG ?_) | (exact ZpN _) | (with_reducible refine And.intro ?_ ?_)))
  rw [e.out]
 ·by_cases h40:40<(b.size:Int)
  ·have e:=ZpM (hfal (by omega));clear hfal
   (repeat' (first | (simp only [↓Zz,ZA,intV,boolV,ZpI,ZpJ,reduceCtorEq,ZD,undef, *]) | (refine ZG ?_) | (exact ZpN _) | (with_reducible refine And.intro ?_ ?_)))
   rw [e.out]
  ·clear hfal
   (repeat' (first | (simp only [↓Zz,ZA,intV,boolV,ZpI,ZpJ,reduceCtorEq,ZD,undef, *])))
   refine ZP (fun _ _ _ h=>h) (fun A H'=>SubH H H'∧A.d=[]∧A.t 0=sV b∧∃ i:Nat,i≤b.size∧A.t 3=iV i∧∀ j (h:j<b.data.toList.length),j<i→okN j (b.data.toList[j].toNat:Int)=true)
    (fun A _=>match A.t 3 with | .lit (.int _ i)=>((b.size:Int)-i).toNat | _=>0) ?_ ?_
   ·exact ⟨ZpN _,rfl,(by simp only [ZC,ZpI,if_false, *]<;>rfl),0,by omega,(by simp only [ZC,ZpI,if_true,if_false, *]<;>rfl),fun j _ h=>by omega⟩
   ·rintro ⟨t,d⟩ H' ⟨hs,rfl,h0,i,hi,h3,hall⟩;dsimp only at h0 h3;delta b87_1 Za Ze Zn Zr Zq Zc Zp Zm;by_cases hlt:i<b.size
    ·have hil:(i:Int)<(b.size:Int):=by omega
     have hi':i<b.data.toList.length:=by omega
     have hget:b.data.toList[i]?=some b.data.toList[i]:=ZqC hi'
     have hok:okN i (b.data.toList[i].toNat:Int)=false→R=false:=fun h=>by
      cases hr:R with
      | false=>rfl
      | true=>rw [hr] at hRi; have:=(hRi.out.1 rfl).2.2 i hi'; rw [h] at this; cases this
     have hok2:okN i (b.data.toList[i].toNat:Int)=true→∀ j (h:j<b.data.toList.length),j<i+1→okN j (b.data.toList[j].toNat:Int)=true:=fun h j hj hji=>by
      rcases Zqm j i with h2 | h2
      ·exact hall j hj h2
      ·obtain rfl:j=i:=by omega
       exact h
     replace hok:=ZpM hok;replace hok2:=ZpM hok2;clear hall
     (repeat' (first | (simp only [↓Zz,ZA,intV,ZpI,ZpJ,reduceCtorEq,ZN,ZD,undef,Zp5,Zoa,Zbu, *]) | (refine Jk ?_ ?_<;>intro) | (refine YW ?_ ?_<;>intro) | (refine Zb0 ?_ ?_<;>intro) | (refine Yh ?_ ?_<;>intro) | (refine ZG ?_) | (with_reducible refine And.intro ?_ ?_)))
     all_goals try rw [ZK (n:=(i:Int)+1) (by omega) (by omega)]
     all_goals first
      | exact hs
      | omega
      | (refine congrArg (fun b=>VE.ret (boolV b)) (hok.out ?_).symm
         rw [Bool.eq_false_iff];intro h;unfold okN firN letN digN at h;simp only [Bool.or_eq_true,ZqA,decide_eq_true_eq] at h
         try simp only [Bool.not_eq_true',decide_eq_false_iff_not] at *
         omega)
      | (refine ⟨i+1,by omega,rfl,fun j h hj=>hok2.out ?_ j (by omega) hj⟩
         unfold okN firN letN digN;simp only [Bool.or_eq_true,ZqA,decide_eq_true_eq]
         try simp only [Bool.not_eq_true',Bool.not_eq_false',decide_eq_false_iff_not,decide_eq_true_eq] at *
         omega)
      | trace_state
    ·have hil:¬ (i:Int)<(b.size:Int):=by omega
     have hRt:R=true:=by
      rw [hRi.out]; exact ⟨by omega,by omega,fun j h=>hall j h (by omega)⟩
     rw [hRt];clear hRt hRi hall
     (repeat' (first | (simp only [↓Zz,ZA,intV,ZpI,ZpJ,reduceCtorEq, *]) | (refine ZV rfl (fun _ _ _ h=>h) ?_)))
     delta c87_1 Zq
     (repeat' (first | (simp only [↓Zz,ZA,ZpI,ZpJ, *]) | (refine ZG ?_)))
end Go.PV.YtglpmlbbaedbiaaGreat
end
section
open Go.PV.AH renaming set_none→ZpO,set_same→ZpP
open Go.PV.GhL renaming cons→ZpZ
open Go.PV.Hold renaming mk→ZpM
open Go.PV.PureF renaming forget→Zp4,use→ZpQ
open Go.PV.SubH renaming refl→ZpN,new→ZpR,of_set→ZpS
open Int renaming reduceLT→Zqe,reduceNeg→ZqG
open List renaming take_append_drop→ZqV,length_take→ZqI,getElem_mem→ZpW,drop→ZpL,drop_eq_nil_of_le→Zp9,drop_eq_getElem_cons→Zql
open Nat renaming reduceEqDiff→ZpI,reduceLT→ZpJ,reduceMul→Zqu
open Option renaming map_none→Zqz,map_some→Zp6,bind_some→Zqg
set_option maxRecDepth 20000
set_option maxHeartbeats 8000000
namespace Go.PV.YtglpmlbbaedbiaaGreat
open Go Go.Proofs
theorem rtakeCo {l:List Co} {n:ByteArray} {i:Nat} {H:AH} {K:VE→AH→Prop} (hi:i≤l.length) (hl:l.length≤1099511627776) (hK:K (.ret (iV (atCo (l.take i) n))) H):ZT Tryz.prog 88 [.slice false i (encC coE l),sV n] H K:=by
 have e:encC coE l=encC coE (l.take i)++encC coE (l.drop i):=by rw [← Yl,ZqV]
 rw [e];refine Yy (ZpZ (GhV.trunc _ _ _ _ _) (GhL.refl _ _)) ?_;have el:(l.take i).length=i:=by rw [ZqI]; omega
 rw [show VV.slice false i (encC coE (l.take i))=cosV (l.take i) from by rw [cosV,encS,el]];exact (Zed (l.take i) n (by omega)).use hK
theorem rCons_ok (l:List Co) (hl:l.length≤1099511627776) (hn:∀ c∈l,c.name.size≤1099511627776):PureF Tryz.prog 86 [cosV l] (iV (Zak l)):=by
 have hna:∀ i (h:i<l.length),PureF Tryz.prog 87 [sV l[i].name] (boolV (nameB l[i].name)):=fun i h=>Zf3 _ (hn _ (ZpW h))
 clear hn;refine Zp4 fun H=>?_
 refine ZE fd86 (by simp) ?_;delta c86 Zf Za Ze Zm Zr;obtain ⟨R,hR⟩:∃ R,R=Zak l:=⟨_,rfl⟩
 rw [← hR];unfold Zak at hR;by_cases h100:100<l.length
 ·have h1:(100:Int)<(l.length:Int):=by omega
  rw [if_pos h100] at hR;rw [hR];clear hR
  (repeat' (first | (simp only [↓Zz,ZA,intV,ZpI,ZpJ,reduceCtorEq,ZD,undef,JJ, *]) | (refine ZG ?_) | (exact ZpN _)))
 ·have h1:¬ (100:Int)<(l.length:Int):=by omega
  rw [if_neg h100] at hR;replace hR:=ZpM hR
  (repeat' (first | (simp only [↓Zz,ZA,intV,ZpI,ZpJ,reduceCtorEq,ZD,undef,JJ, *])))
  refine ZP (fun _ _ _ h=>h) (fun A H'=>SubH H H'∧A.d=[]∧A.t 0=cosV l∧∃ i:Nat,i≤l.length∧A.t 3=iV i∧R=ZbE l (l.drop i) i)
   (fun A _=>match A.t 3 with | .lit (.int _ i)=>((l.length:Int)-i).toNat | _=>0) ?_ ?_
  ·exact ⟨ZpN _,rfl,(by simp only [ZC,ZpI,if_false, *]<;>rfl),0,by omega,(by simp only [ZC,ZpI,if_true,if_false, *]<;>rfl),hR.out⟩
  ·clear hR h1;rintro ⟨t,d⟩ H' ⟨hs,rfl,h0,i,hi,h3,hR⟩;dsimp only at h0 h3;delta b86_1 Za Ze Zn Zr Zk Zd Zb Zo Zq Zc Zf Zm Zp;by_cases hlt:i<l.length
   ·have hil:(i:Int)<(l.length:Int):=by omega
    have hdi:=Zaj hlt;have hni:=hna i hlt;rw [Zfp hlt] at hR;replace hR:=ZpM hR;clear hna
    (repeat' (first | (simp only [↓Zz,ZA,intV,boolV,ZpI,ZpJ,Zqu,reduceCtorEq,ZN,ZD,ZpL,undef,YC,Zqz,Zp6,Xj,idxV,idxOk,Nat.sub_zero,Zgs,ZaL,ZW,ZQ,JJ,Zau,Zdb, *]) | (refine YW ?_ ?_<;>intro) | (refine ZX ?_ ?_<;>intro) | (refine Yh ?_ ?_<;>intro) | (refine ZG ?_) | (refine ZJ mixed (fun _ _ _ _ e h=>⟨e.trans h.1,h.2⟩) _ (ZpN _) ?_) | (refine ZpQ (hni) ?_) | (refine rtakeCo (by omega) (by omega) ?_) | (with_reducible refine And.intro ?_ ?_)))
    all_goals try rw [ZK (n:=(i:Int)+1) (by omega) (by omega)]
    all_goals first
     | exact fun _=>trivial
     | exact Nat.zero_le _
     | exact hs
     | omega
     | (refine congrArg (fun z:Int=>VE.ret (iV z)) ?_
        rw [hR.out]; repeat' split
        all_goals first
         | rfl
         | omega
         | simp_all
         | (exfalso; simp_all; omega))
     | (refine ⟨i+1,by omega,rfl,?_⟩
        rw [hR.out]; repeat' split
        all_goals first
         | rfl
         | omega
         | simp_all
         | (exfalso; simp_all; omega))
     | trace_state
   ·have hil:¬ (i:Int)<(l.length:Int):=by omega
    rw [Zp9 (by omega)] at hR;have hR:R=0:=hR;rw [hR];clear hR
    (repeat' (first | (simp only [↓Zz,ZA,intV,ZpI,ZpJ,reduceCtorEq,JJ, *]) | (refine ZV rfl (fun _ _ _ h=>h) ?_)))
    delta c86_1 Zf
    (repeat' (first | (simp only [↓Zz,ZA,ZpI,ZpJ, *]) | (refine ZG ?_)))
    all_goals try exact hs
mutual
def Pa.dp:Pa→Nat
 | .mk _ _ ks=>pasDp ks+1
def pasDp:List Pa→Nat
 | []=>0
 | k::ks=>max k.dp (pasDp ks)
end
theorem Pa.dp_eq (p:Pa):p.dp=pasDp p.kids+1:=by cases p; rw [Pa.dp]; rfl
theorem ZmJ {l:List Pa} {i:Nat} (h:i<l.length):pasDp (l.drop i)=max l[i].dp (pasDp (l.drop (i+1))):=by rw [Zql h,pasDp]
def mxL (d:Int) (L:List Pl):Int:=L.foldl (fun d x=>max d (x.2+1)) d
theorem ZmK (d:Int) (L M:List Pl):mxL d (L++M)=mxL (mxL d L) M:=List.foldl_append
mutual
theorem Zos:∀ (p:Pa) (a d:Int),0≤a→mxL d (p.all a)=max d (a+p.dp)
 | .mk c n ks,a,d,ha=>by
   rw [Pa.all];show mxL (max d (a+1)) (XO ks (a+1))=_;rw [Zot ks (a+1) (max d (a+1)) (by omega) (by omega),Pa.dp];omega
theorem Zot:∀ (ks:List Pa) (a d:Int),0≤a→a≤d→mxL d (XO ks a)=max d (a+pasDp ks)
 | [],a,d,ha,hd=>by show d=_; rw [pasDp]; omega
 | k::ks,a,d,ha,hd=>by
   rw [XO,ZmK,Zos k a d ha,Zot ks a _ ha (by omega),pasDp];omega
end
theorem dpL_all (p:Pa):dpL (p.all 0)=p.dp:=by
 have:=Zos p 0 0 (by omega)
 have h2:dpL (p.all 0)=mxL 0 (p.all 0):=rfl;rw [h2,this]; omega
mutual
theorem Pa.dp_le:∀ e:Pa,e.dp≤e.sz
 | .mk _ _ ks=>by have:=Zl5 ks; rw [Pa.dp,Pa.sz]; omega
theorem Zl5:∀ l:List Pa,pasDp l≤pasSz l
 | []=>by simp [pasDp]
 | k::l=>by have:=Pa.dp_le k; have:=Zl5 l; rw [pasDp,pasSz]; omega
end
theorem psize_ok (e:Pa):e.sz≤1099511627776→PureF Tryz.prog 124 [paV e] (.tuple [iV e.sz,iV e.dp]):=by
 refine Pa.ind (p:=fun e=>e.sz≤1099511627776→PureF Tryz.prog 124 [paV e] (.tuple [iV e.sz,iV e.dp])) (fun e ih hs=>?_) e;have hz:=e.sz_eq;have hl:=XY e.kids;have ih':∀ i (h:i<e.kids.length),PureF Tryz.prog 124 [paV e.kids[i]] (.tuple [iV e.kids[i].sz,iV e.kids[i].dp]):=fun i h=>ih _ (ZpW h) (by have:=Xm (ZpW h); omega)
 clear ih;refine Zp4 fun H=>?_
 refine ZE fd124 (by simp) ?_;delta c124 Zj Zf;obtain ⟨N,D,hN,hD,hNs,hlN⟩:∃ N D,e.sz=N∧e.dp=D∧N≤1099511627776∧e.kids.length≤N:=⟨_,_,rfl,rfl,hs,by omega⟩
 have hDN:D≤N:=by have:=e.dp_le; omega
 have h0:1+pasSz e.kids=N:=by omega
 have h1:pasDp e.kids+1=D:=by rw [← hD,e.dp_eq]
 rw [hN,hD];clear hs hl hz hN hD
 (repeat' (first | (simp only [↓Zz,ZA,ptrV,ZpJ,ZD,undef, *]) | (refine ZB fun zr zh=>?_; have zg:=zh; (try simp only [ZpO] at zg))))
 refine ZP (fun _ _ _ h=>h) (fun A H'=>SubH H H'∧H' zr=some (.cells 126 [bV e.con,sV e.name,encS paE e.kids] 0)∧A.d=[]∧A.t 1=ptrV zr 0∧∃ (i n d:Nat),i≤e.kids.length∧A.t 6=iV i∧A.t 4=iV n∧A.t 5=iV d∧n+pasSz (e.kids.drop i)=N∧max d (pasDp (e.kids.drop i))+1=D)
  (fun A _=>match A.t 6 with | .lit (.int _ i)=>((e.kids.length:Int)-i).toNat | _=>0) ?_ ?_
 ·exact ⟨ZpR zh,ZpP _ _ _,rfl,rfl,0,1,0,by omega,rfl,rfl,rfl,h0,by simpa using h1⟩
 ·clear h0 h1;rintro ⟨t,d⟩ H' ⟨hs',k1,rfl,h1,i,n,d,hi,h6,h4,h5,hn,hdd⟩;dsimp only at h1 h4 h5 h6;delta b124_1 Za Zd Zb Ze Zn Zr Zk Zo Zh Zc Zq Zm;by_cases hlt:i<e.kids.length
  ·have hil:(i:Int)<(e.kids.length:Int):=by omega
   have hdi:=Wx hlt;have ihi:=ih' i hlt;have e1:=ZbC hlt;have e2:=ZmJ hlt;have w1:IntKind.i64.wrap ((n:Int)+(e.kids[i].sz:Int))=((n+e.kids[i].sz:Nat):Int):=by rw [ZK (by omega) (by omega)]; omega
   clear ih';rw [e1] at hn;rw [e2] at hdd;replace hn:=ZpM hn;replace hdd:=ZpM hdd;clear e1 e2
   (repeat' (first | (simp only [↓Zz,ZA,ZI,ptrV,intV,ZpI,ZpJ,reduceCtorEq,ZpL,vcMax,Xx,Xk,Zay,YQ,en_124, *]) | (refine ZpQ (ihi) ?_) | (with_reducible refine And.intro ?_ ?_)))
   all_goals try rw [ZK (n:=(i:Int)+1) (by omega) (by omega)]
   all_goals first
    | omega
    | exact hs'
    | exact ⟨i+1,n+e.kids[i].sz,max d e.kids[i].dp,by omega,rfl,by simp,by simp; split<;>omega,by have:=hn.out; omega,by have:=hdd.out; omega⟩
    | trace_state
  ·have hil:¬ (i:Int)<(e.kids.length:Int):=by omega
   rw [Zp9 (by omega)] at hn hdd;have hn':N=n:=by simpa [pasSz] using hn.symm
   have hd':D=d+1:=by simpa [pasDp] using hdd.symm
   have w2:IntKind.i64.wrap ((d:Int)+1)=((d+1:Nat):Int):=by rw [ZK (by omega) (by omega)]; omega
   subst hn' hd';clear hn hdd
   (repeat' (first | (simp only [↓Zz,ZA,ptrV,intV,ZpI,ZpJ,reduceCtorEq,ZpL,Xx,Xk,YQ, *]) | (refine ZV rfl (fun _ _ _ h=>h) ?_)))
   delta c124_1 Za Zm Zc
   (repeat' (first | (simp only [↓Zz,ZA,ZpI,ZpJ, *])))
   exact Yo rfl (by simp only [resV,YY,YX,ZC,ZpI,if_true,if_false,Zqg,Zp6,tupV, *]<;>rfl) ⟨rfl,hs'⟩
mutual
def Pa.psF (l:List Co):Pa→Int
 | .mk c n ks=>if plErr l (.mk c n ks,0)=0 then Za9 l ks else plErr l (.mk c n ks,0)
def Za9 (l:List Co):List Pa→Int
 | []=>0
 | k::ks=>if k.psF l=0 then Za9 l ks else k.psF l
end
theorem Pa.psF_eq (l:List Co) (p:Pa):p.psF l=if plErr l (p,0)=0 then Za9 l p.kids else plErr l (p,0):=by cases p; rw [Pa.psF]; rfl
theorem Zll {l:List Co} {ks:List Pa} {i:Nat} (h:i<ks.length):Za9 l (ks.drop i)=if ks[i].psF l=0 then Za9 l (ks.drop (i+1)) else ks[i].psF l:=by rw [Zql h,Za9]
theorem plErr_at (l:List Co) (p:Pa) (a b:Int):plErr l (p,a)=plErr l (p,b):=rfl
theorem ZeP {l:List Co}:∀ (L M:List Pl),Jj l (L++M)=if Jj l L=0 then Jj l M else Jj l L
 | [],M=>by simp [Jj]
 | x::L,M=>by
   rw [List.cons_append,Jj,Jj,ZeP L M];by_cases h:plErr l x=0
   ·simp only [h,if_true]
   ·simp only [h,if_false]
mutual
theorem Zou (l:List Co):∀ (p:Pa) (a:Int),Jj l (p.all a)=p.psF l
 | .mk c n ks,a=>by rw [Pa.all,Jj,Pa.psF,Zov l ks (a+1),plErr_at l _ a 0]
theorem Zov (l:List Co):∀ (ks:List Pa) (a:Int),Jj l (XO ks a)=Za9 l ks
 | [],a=>rfl
 | k::ks,a=>by rw [XO,ZeP,Zou l k a,Zov l ks a,Za9]
end
theorem Zl6 (l:List Co) (p:Pa):paChk l p=if 100<p.sz then 7 else if 50<p.dp then 6 else p.psF l:=by
 unfold paChk;rw [dpL_all,Zou];by_cases h:50<p.dp
 ·have h':(50:Int)<(p.dp:Int):=by omega
  simp only [h,h',if_true]
 ·have h':¬ (50:Int)<(p.dp:Int):=by omega
  simp only [h,h',if_false]
mutual
def Pa.nmOk:Pa→Prop
 | .mk _ n ks=>n.size≤1099511627776∧Zgh ks
def Zgh:List Pa→Prop
 | []=>True
 | k::ks=>k.nmOk∧Zgh ks
end
theorem ZgQ:∀ {ks:List Pa},Zgh ks↔∀ k∈ks,k.nmOk
 | []=>by simp [Zgh]
 | k::ks=>by rw [Zgh,ZgQ]; simp
theorem Pa.nmOk_iff {e:Pa}:e.nmOk↔e.name.size≤1099511627776∧∀ k∈e.kids,k.nmOk:=by
 cases e; rw [Pa.nmOk,ZgQ]; rfl
theorem Zo9 (l:List Co) (hl:l.length≤1099511627776) (e:Pa):e.sz≤1099511627776→e.nmOk→PureF Tryz.prog 125 [cosV l,paV e] (iV (e.psF l)):=by
 refine Pa.ind (p:=fun e=>e.sz≤1099511627776→e.nmOk→PureF Tryz.prog 125 [cosV l,paV e] (iV (e.psF l))) (fun e ih hs hn=>?_) e;have hz:=e.sz_eq;have hkl:=XY e.kids;have hn':=Pa.nmOk_iff.1 hn;have ih':∀ i (h:i<e.kids.length),PureF Tryz.prog 125 [cosV l,paV e.kids[i]] (iV (e.kids[i].psF l)):=fun i h=>ih _ (ZpW h) (by have:=Xm (ZpW h); omega) (hn'.2 _ (ZpW h))
 have hnm:=Zf3 e.name hn'.1;have hco:=Zed l e.name hl
 have hat:atCo l e.name = -1∨∃ j:Nat,∃ h:j<l.length,atCo l e.name=j:=by
  rcases WI (fun c:Co=>decide (c.name=e.name)) l with ⟨h,_⟩ | ⟨j,h,hj,_⟩
  ·exact .inl h
  ·exact .inr ⟨j,h,hj⟩
 have hkN:e.kids.length≤1099511627776:=by omega
 rw [e.psF_eq];obtain ⟨R,hR⟩:∃ R,R=(if plErr l (e,0)=0 then Za9 l e.kids else plErr l (e,0)):=⟨_,rfl⟩
 rw [← hR];unfold plErr at hR;dsimp only at hR;clear ih hn hn' hs hz hkl;refine Zp4 fun H=>?_
 refine ZE fd125 (by simp) ?_;delta c125 Zj Zf Zd Zb Zo Zr Zq Za Zp Zc Zm Ze Zk Zn;replace hR:=ZpM hR
 have hloop:∀ (t:Nat→VV) (B:AH) (r3:Nat),R=Za9 l e.kids→t 0=cosV l→t 3=ptrV r3 0→t 6=iV 0→SubH H B→B r3=some (.cells 126 [bV e.con,sV e.name,encS paE e.kids] 0) →
  ACx ⟨Tryz.prog,57,none⟩ (.loop Zng) (Xh 0 (thenA (ACx ⟨Tryz.prog,57,none⟩ Znh (YI Tryz.prog [.tmp 4] fun e H'=>e=.ret (iV R)∧SubH H H')) (YI Tryz.prog [.tmp 4] fun e H'=>e=.ret (iV R)∧SubH H H'))) ⟨t,[]⟩ B:=by
  intro t B r3 hR h0 h3 h6 hs k3
  refine ZP (fun _ _ _ h=>h) (fun A H'=>SubH H H'∧H' r3=some (.cells 126 [bV e.con,sV e.name,encS paE e.kids] 0)∧A.d=[]∧A.t 0=cosV l∧A.t 3=ptrV r3 0∧∃ i:Nat,i≤e.kids.length∧A.t 6=iV i∧R=Za9 l (e.kids.drop i))
   (fun A _=>match A.t 6 with | .lit (.int _ i)=>((e.kids.length:Int)-i).toNat | _=>0) ?_ ?_
  ·exact ⟨hs,k3,rfl,h0,h3,0,by omega,h6,hR⟩
  ·clear hR h0 h3 h6 hs k3;rintro ⟨t,d⟩ H' ⟨hs,k3,rfl,h0,h3,i,hi,h6,hR⟩;dsimp only at h0 h3 h6;delta Zng Za Zd Zb Ze Zn Zr Zk Zo Zc Zm;by_cases hlt:i<e.kids.length
   ·have hil:(i:Int)<(e.kids.length:Int):=by omega
    have hdi:=Wx hlt;have ihi:=ih' i hlt;rw [Zll hlt] at hR;replace hR:=ZpM hR;clear ih' hnm hco hat
    (repeat' (first | (simp only [↓Zz,ZA,ptrV,intV,ZpI,ZpJ,reduceCtorEq,ZpL,Xx,Xk,Zay,YQ,en_125, *]) | (refine Yh ?_ ?_<;>intro) | (refine ZG ?_) | (refine ZpQ (ihi) ?_) | (with_reducible refine And.intro ?_ ?_)))
    all_goals try rw [ZK (n:=(i:Int)+1) (by omega) (by omega)]
    all_goals first
     | omega
     | exact hs
     | (have hne:(!decide (Pa.psF l e.kids[i]=0))=true:=by assumption
        rw [hR.out,if_neg (by simpa using hne)])
     | (have hne:(!decide (Pa.psF l e.kids[i]=0))=false:=by assumption
        exact ⟨i+1,by omega,rfl,by rw [hR.out,if_pos (by simpa using hne)]⟩)
     | trace_state
   ·have hil:¬ (i:Int)<(e.kids.length:Int):=by omega
    rw [Zp9 (by omega)] at hR;have hR:R=0:=hR;rw [hR];clear ih' hnm hco hat hR
    (repeat' (first | (simp only [↓Zz,ZA,ptrV,intV,ZpI,ZpJ,reduceCtorEq,ZpL,Xx,Xk,YQ, *]) | (refine ZV rfl (fun _ _ _ h=>h) ?_)))
    delta Znh Zf
    (repeat' (first | (simp only [↓Zz,ZA,ZpI,ZpJ, *]) | (refine ZG ?_)))
    all_goals try exact hs
 clear ih';replace hR:=hR.out;generalize hnb:nameB e.name=nb at *
 generalize hac:atCo l e.name=ac at *
 cases nb with
 | false =>
   have hR':=ZpM (show (411:Int)=R by rw [hR]; simp);clear hR hloop hat
   (repeat' (first | (simp only [↓Zz,ZA,ptrV,boolV,ZpI,ZpJ,ZN,ZD,ZpL,undef,Wz,ZW,Zau, *]) | (refine ZG ?_) | (refine ZB fun zr zh=>?_; have zg:=zh; (try simp only [ZpO] at zg)) | (exact ZpN _) | (refine ZpS ?_ ?_) | (refine ZpQ (hnm) ?_) | (with_reducible refine And.intro ?_ ?_)))
   all_goals first
    | rw [hR'.out]
    | exact ZpR zh
 | true =>
   cases hc:e.con with
   | false =>
     by_cases hk:0<e.kids.length
     ·have hk':(0:Int)<(e.kids.length:Int):=by omega
      have hR':=ZpM (show (411:Int)=R by rw [hR,hc]; simp [hk]);clear hR hloop hat
      (repeat' (first | (simp only [↓Zz,ZA,ptrV,intV,boolV,ZpI,ZpJ,reduceCtorEq,ZD,ZpL,undef,Xx,Wz,Wl,Xk,ZW,Zat,YQ,Zau, *]) | (refine ZG ?_) | (refine ZB fun zr zh=>?_; have zg:=zh; (try simp only [ZpO] at zg)) | (exact ZpN _) | (refine ZpS ?_ ?_) | (refine ZpQ (hnm) ?_) | (with_reducible refine And.intro ?_ ?_)))
      all_goals first
       | rw [hR'.out]
       | exact ZpR zh
     ·have hk':¬ (0:Int)<(e.kids.length:Int):=by omega
      have hR':=ZpM (show R=Za9 l e.kids by rw [hR,hc]; simp [hk]);rw [hc] at hloop;clear hR hat
      (repeat' (first | (simp only [↓Zz,ZA,ptrV,intV,boolV,ZpI,ZpJ,reduceCtorEq,ZD,ZpL,undef,Xx,Wz,Wl,Xk,ZW,Zat,YQ,Zau, *]) | (refine ZB fun zr zh=>?_; have zg:=zh; (try simp only [ZpO] at zg)) | (refine ZpQ (hnm) ?_)))
      exact hloop _ _ zr hR'.out (by simp only [ZC,ZpI,if_false, *]<;>rfl) (by simp only [ZC,ZpI,if_true,if_false, *]<;>rfl) (by simp only [ZC,ZpI,if_true,if_false, *]<;>rfl) (ZpR zh) (ZpP _ _ _)
   | true =>
     rcases hat with rfl | ⟨j,hj,rfl⟩
     ·have hR':=ZpM (show (9:Int)=R by rw [hR,hc]; simp);clear hR hloop
      (repeat' (first | (simp only [↓Zz,ZA,ptrV,boolV,ZpI,ZpJ,reduceCtorEq,ZN,ZD,ZpL,undef,Zqe,ZqG,Wz,Wl,ZW,Zat,Zau,Zdb, *]) | (refine ZG ?_) | (refine ZB fun zr zh=>?_; have zg:=zh; (try simp only [ZpO] at zg)) | (exact ZpN _) | (refine ZpS ?_ ?_) | (refine ZpQ (hnm) ?_) | (refine ZpQ (hco) ?_) | (with_reducible refine And.intro ?_ ?_)))
      all_goals first
       | rw [hR'.out]
       | exact ZpR zh
     ·have hcd:=Zaj hj;have hjl:(j:Int)<(l.length:Int):=by omega
      have hj0:¬ (j:Int)<0:=by omega
      by_cases hka:(e.kids.length:Int)=l[j].arity
      ·have hR':=ZpM (show R=Za9 l e.kids by rw [hR,hc]; simp [hj,hka,hj0]);rw [hc] at hloop;clear hR
       (repeat' (first | (simp only [↓Zz,ZA,ptrV,intV,boolV,ZpI,ZpJ,reduceCtorEq,ZN,ZD,ZpL,undef,Xx,Wz,Wl,ZaL,Xk,ZW,Zat,ZQ,YQ,JJ,Zau,Zdb, *]) | (refine ZJ mixed (fun _ _ _ _ e h=>⟨e.trans h.1,h.2⟩) _ (ZpN _) ?_) | (refine ZB fun zr zh=>?_; have zg:=zh; (try simp only [ZpO] at zg)) | (refine ZpQ (hnm) ?_) | (refine ZpQ (hco) ?_)))
       exact hloop _ _ zr hR'.out (by simp only [ZC,ZpI,if_false, *]<;>rfl) (by simp only [ZC,ZpI,if_true,if_false, *]<;>rfl) (by simp only [ZC,ZpI,if_true,if_false, *]<;>rfl) (ZpR zh) (ZpP _ _ _)
      ·have hR':=ZpM (show (5:Int)=R by rw [hR,hc]; simp [hj,hka,hj0]);clear hR hloop
       (repeat' (first | (simp only [↓Zz,ZA,ptrV,intV,boolV,ZpI,ZpJ,reduceCtorEq,ZN,ZD,ZpL,undef,Xx,Wz,Wl,ZaL,Xk,ZW,Zat,ZQ,YQ,JJ,Zau,Zdb, *]) | (refine ZG ?_) | (refine ZJ mixed (fun _ _ _ _ e h=>⟨e.trans h.1,h.2⟩) _ (ZpN _) ?_) | (refine ZB fun zr zh=>?_; have zg:=zh; (try simp only [ZpO] at zg)) | (exact ZpN _) | (refine ZpS ?_ ?_) | (refine ZpQ (hnm) ?_) | (refine ZpQ (hco) ?_) | (with_reducible refine And.intro ?_ ?_)))
       all_goals first
        | rw [hR'.out]
        | exact ZpR zh
theorem ZmL (e:Ex):e.sz≤1152921504606846976→PureF Tryz.prog 128 [exV e] (.tuple [iV e.sz,iV e.dp]):=by
 refine Ex.ind (p:=fun e=>e.sz≤1152921504606846976→PureF Tryz.prog 128 [exV e] (.tuple [iV e.sz,iV e.dp])) (fun e ih hs=>?_) e;have hz:=e.sz_eq;have hl:=YN e.kids;have ih':∀ i (h:i<e.kids.length),PureF Tryz.prog 128 [exV e.kids[i]] (.tuple [iV e.kids[i].sz,iV e.kids[i].dp]):=fun i h=>ih _ (ZpW h) (by have:=Ya (ZpW h); omega)
 clear ih;refine Zp4 fun H=>?_
 refine ZE fd128 (by simp) ?_;delta c128 Zj Zf;obtain ⟨N,D,hN,hD,hNs,hlN⟩:∃ N D,e.sz=N∧e.dp=D∧N≤1152921504606846976∧e.kids.length≤N:=⟨_,_,rfl,rfl,hs,by omega⟩
 have hDN:D≤N:=by have:=e.dp_le; omega
 have h0:1+exsSz e.kids=N:=by omega
 have h1:exsDp e.kids+1=D:=by rw [← hD,e.dp_eq]
 rw [hN,hD];clear hs hl hz hN hD
 (repeat' (first | (simp only [↓Zz,ZA,ptrV,ZpJ,ZD,undef, *]) | (refine ZB fun zr zh=>?_; have zg:=zh; (try simp only [ZpO] at zg))))
 refine ZP (fun _ _ _ h=>h) (fun A H'=>SubH H H'∧A.d=[]∧A.t 1=ptrV zr 0∧∃ (i n d sp:Nat),H' zr=some (.cells 28 [iV e.op,sV e.name,encS exE e.kids] sp)∧i≤e.kids.length∧A.t 6=iV i∧A.t 4=iV n∧A.t 5=iV d∧n+exsSz (e.kids.drop i)=N∧max d (exsDp (e.kids.drop i))+1=D)
  (fun A _=>match A.t 6 with | .lit (.int _ i)=>((e.kids.length:Int)-i).toNat | _=>0) ?_ ?_
 ·exact ⟨ZpR zh,rfl,rfl,0,1,0,0,ZpP _ _ _,by omega,rfl,rfl,rfl,h0,by simpa using h1⟩
 ·clear h0 h1;rintro ⟨t,d⟩ H' ⟨hs',rfl,h1,i,n,d,sp,k1,hi,h6,h4,h5,hn,hdd⟩;dsimp only at h1 h4 h5 h6;delta b128_1 Za Zd Zb Ze Zn Zr Zk Zo Zh Zc Zq Zm
  (repeat' (first | (simp only [↓Zz,ZA,ZI,ptrV,intV,ZpI,ZpJ,reduceCtorEq,ZpL,vcMax,XI,ZR,Ye,Yd,ZU,en_128, *]) | (refine ZX ?_ ?_<;>intro) | (refine ZV rfl (fun _ _ _ h=>h) ?_) | (refine ZpQ (ih' _ (by assumption)) ?_) | (with_reducible refine And.intro ?_ ?_)))
  ·rename_i hlt;have e1:=ZcS hlt;rw [ZK (n:=(i:Int)+1) (by omega) (by omega),ZK (n:=(n:Int)+(e.kids[i].sz:Int)) (by omega) (by omega)];exact ⟨i+1,n+e.kids[i].sz,max d e.kids[i].dp,sp,rfl,by omega,rfl,by simp,by simp; split<;>omega,by omega,by rw [ZcT hlt] at hdd; omega⟩
  ·rename_i hlt;rw [ZK (n:=(i:Int)+1) (by omega) (by omega)];omega
  ·rename_i hlt;rw [Zp9 (by omega)] at hn hdd;delta c128_1 Za Zm Zc;have hn':N=n:=by simpa [exsSz] using hn.symm
   have hd':D=d+1:=by simpa [exsDp] using hdd.symm
   subst hn'; subst hd'
   (repeat' (first | (simp only [↓Zz,ZA,ZpI,ZpJ, *])))
   rw [ZK (n:=(d:Int)+1) (by omega) (by omega)];exact Yo rfl (by simp only [resV,YY,YX,ZC,ZpI,if_true,if_false,Zqg,Zp6,tupV, *]<;>rfl) ⟨rfl,hs'⟩
end Go.PV.YtglpmlbbaedbiaaGreat
end
section
open Go.PV.AH renaming set_none→ZpO,set_same→ZpP
open Go.PV.Hold renaming mk→ZpM
open Go.PV.SubH renaming new→ZpR
open List renaming drop→ZpL,getElem_mem→ZpW,length_append→Zqt,take_of_length_le→Zqr
open Nat renaming reduceEqDiff→ZpI,reduceLT→ZpJ,reduceLeDiff→Zp1
set_option maxRecDepth 20000
set_option maxHeartbeats 8000000
namespace Go.PV.YtglpmlbbaedbiaaGreat
open Go Go.Proofs
theorem Zow {f:FuncId} {xs:List VV} {H0 H:AH} {e:TypeId} {k n:Nat} {cs:List VV} {K:VE→AH→Prop} (h:ZT Tryz.prog f xs H (fun r H'=>∃ v,r=.ret v∧OutE H0 H' e k v n cs)) (hK:∀ v H',OutE H0 H' e k v n cs→K (.ret v) H'):ZT Tryz.prog f xs H K:=fun S w args hs hx =>
 (h S w args hs hx).mono fun e w' hq=>by
   cases e with
   | returned v =>
     obtain ⟨S',H',y,h1,h2,h3,z,h4,h5⟩:=hq;cases h4;exact ⟨S',H',_,h1,h2,h3,hK _ _ h5⟩
   | panicked ch=>obtain ⟨S',H',h1,h2,z,h4,_⟩:=hq; cases h4
   | outgrown=>exact hq
def vrQ (H0:AH) (cs:List ByteArray):VE→AH→Prop:=fun r H'=>∃ v,r=.ret v∧OutE H0 H' 9 1 v cs.length (encC strE cs)
theorem rvars_ok:∀ (n:Nat) (p:Pa) (acc:List ByteArray) (v:VV) (H0 H:AH),p.sz<n→acc.length+p.sz≤1099511627776→OutE H0 H 9 1 v acc.length (encC strE acc)→ZT Tryz.prog 126 [paV p,v] H (vrQ H0 (acc++p.names)):=by
 intro n
 induction n with
 | zero=>intro p acc v H0 H h; omega
 | succ n ih =>
   intro p acc v H0 H h0 hs ho;have hz:=p.sz_eq;have hkl:=XY p.kids;have hkN:p.kids.length≤1099511627776:=by omega
   refine ZE fd126 (by simp) ?_;delta c126 Zj Zq Zd Zb Zr Za Zl Zc Zf;rw [p.names_eq];have hvc:=ho.cells.1;cases hc:p.con with
   | false =>
     rw [if_neg (by simp)];replace ho:=ZpM ho;clear ih
     (repeat' (first | (simp only [↓Zz,ZA,ptrV,ZpI,ZpJ,Zp1,ZD,fillV,setAt,ZpL,undef,ZH,ZH,Wl,Wz,Zat,ZW,Xy,Jd, *]) | (refine ZB fun zr zh=>?_; have zg:=zh; (try simp only [ZpO] at zg))))
     refine (ho.out.alloc zh _).append1 (xs:=[sV p.name]) Xy Jd rfl (by omega) rfl rfl (by omega) (by omega) (fun v' H' ho2=>?_);have e1:encC strE acc++[sV p.name]=encC strE (acc++[p.name]):=by rw [Yl]; rfl
     have e2:acc.length+1=(acc++[p.name]).length:=by simp
     rw [e1,e2] at ho2;replace ho2:=ZpM ho2;clear e1 e2
     (repeat' (first | (simp only [↓Zz,ZA,ZpI,ZpJ, *]) | (refine ZG ?_)))
     exact ⟨v',rfl,ho2.out⟩
   | true =>
     rw [if_pos rfl];have hstart:OutE H0 H 9 1 v (acc++ZY (p.kids.take 0)).length (encC strE (acc++ZY (p.kids.take 0))):=by simpa [ZY] using ho
     replace ho:=ZpM ho;replace hstart:=ZpM hstart
     (repeat' (first | (simp only [↓Zz,ZA,ptrV,ZpI,ZpJ,ZD,ZpL,undef,Wl,Zat, *]) | (refine ZB fun zr zh=>?_; have zg:=zh; (try simp only [ZpO] at zg))))
     have g1:=ho.out.sub.none zh
     refine ZP (fun _ _ _ h=>h) (fun A H'=>A.d=[]∧A.t 2=ptrV zr 0∧∃ (i:Nat),i≤p.kids.length∧A.t 5=iV i∧OutE (H0.set zr (.cells 126 [bV true,sV p.name,encS paE p.kids] 0)) H' 9 1 (A.t 1) (acc++ZY (p.kids.take i)).length (encC strE (acc++ZY (p.kids.take i))))
      (fun A _=>match A.t 5 with | .lit (.int _ i)=>((p.kids.length:Int)-i).toNat | _=>0) ?_ ?_
     ·exact ⟨rfl,(by simp only [ZC,ZpI,if_true,if_false, *]<;>rfl),0,by omega,(by simp only [ZC,ZpI,if_true,if_false, *]<;>rfl),by simp only [ZC,ZpI,if_false]; exact hstart.out.allocB zh _⟩
     ·clear hstart;rintro ⟨t,d⟩ H' ⟨rfl,h2,i,hi,h5,ho'⟩;dsimp only at h2 h5 ho';have k2:=ho'.sub _ _ (ZpP _ _ _);have hvc':=ho'.cells.1;delta b126_1 Za Zd Zb Ze Zn Zr Zk Zo Zc Zm;by_cases hlt:i<p.kids.length
      ·have hil:(i:Int)<(p.kids.length:Int):=by omega
       have hdi:=Wx hlt;have hsm:=Xm (ZpW hlt);have htk:=ZcV p.kids (i+1);rw [Zd7 hlt] at htk;have hnl:=Ju (p.kids.take i);have ihi:=ih p.kids[i] (acc++ZY (p.kids.take i)) (t 1) _ H' (by omega) (by rw [Zqt]; omega) ho';rw [List.append_assoc,← Zey hlt] at ihi;have ihu:=fun K hK=>Zow (K:=K) ihi hK
       replace ho':=ZpM ho';clear ih ihi htk hnl
       (repeat' (first | (simp only [↓Zz,ZA,ptrV,intV,ZpI,ZpJ,reduceCtorEq,ZpL,Xx,Xk,Zay,YQ,en_126, *]) | (refine ihu _ (fun v2 H2 ho2=>?_)) | (with_reducible refine And.intro ?_ ?_)))
       all_goals try rw [ZK (n:=(i:Int)+1) (by omega) (by omega)]
       all_goals first
        | omega
        | exact ⟨i+1,by omega,rfl,ho2⟩
        | trace_state
      ·have hil:¬ (i:Int)<(p.kids.length:Int):=by omega
       rw [Zqr (by omega)] at ho';replace ho':=ZpM ho';clear ih
       (repeat' (first | (simp only [↓Zz,ZA,ptrV,intV,ZpI,ZpJ,reduceCtorEq,ZpL,Xx,Xk,YQ, *]) | (refine ZV rfl (fun _ _ _ h=>h) ?_)))
       delta c126_1 Za Zc
       (repeat' (first | (simp only [↓Zz,ZA,ZpI,ZpJ, *]) | (refine ZG ?_)))
       exact ⟨_,rfl,ho'.out.weak (ZpR g1)⟩
end Go.PV.YtglpmlbbaedbiaaGreat
end
section
open Go.PV.AH renaming set_none→ZpO,get→ZpU,set_same→ZpP,set_ne→ZpV
open Go.PV.Hold renaming mk→ZpM
open Go.PV.PureF renaming use→ZpQ,forget→Zp4
open Go.PV.SubH renaming refl→ZpN,of_set→ZpS,new→ZpR
open Int renaming reduceLT→Zqe,reduceLE→Zqi,reduceEq→Zp5,reduceNeg→ZqG
open List renaming drop→ZpL,drop_eq_nil_of_le→Zp9,eq_nil_of_length_eq_zero→ZqD,getElem_mem→ZpW
open Nat renaming reduceEqDiff→ZpI,reduceLT→ZpJ,reduceLeDiff→Zp1,zero_add→Zp2
set_option maxRecDepth 20000
set_option maxHeartbeats 8000000
namespace Go.PV.YtglpmlbbaedbiaaGreat
open Go Go.Proofs
theorem ZdK {p:Pr} {op:Int} {name:ByteArray} {ks:List Ex} {nm vars:List ByteArray} {t:Nat→VV} {H0 B:AH} {r3 r4:Nat} {R:Int} (hN:ks.length≤1099511627776)
 (ih:∀ i (h:i<ks.length),PureF Tryz.prog 129 [prV p,exV ks[i],strsV vars] (iV (ks[i].shF p nm))) (hR:R=shsF p ks nm) (h2:t 2=strsV vars) (h3:t 3=ptrV r3 0) (h4:t 4=ptrV r4 0) (h7:t 7=iV ks.length) (h9:t 9=iV 0)
 (k3:B r3=some (.cells 25 [cosV p.cons,fusV p.funs] 0)) (k4:B r4=some (.cells 28 [iV op,sV name,encS exE ks] 0)) (hs:SubH H0 B) :
 ACx ⟨Tryz.prog,140,none⟩ (.loop Zni) (Xh 1 (thenA (ACx ⟨Tryz.prog,140,none⟩ Znj (sdQ H0 R)) (sdQ H0 R))) ⟨t,[]⟩ B:=by
 refine ZP (fun _ _ _ h=>h) (fun A H'=>H'=B∧A.d=[]∧A.t 2=strsV vars∧A.t 3=ptrV r3 0∧A.t 4=ptrV r4 0∧A.t 7=iV ks.length∧∃ i:Nat,i≤ks.length∧A.t 9=iV i∧R=shsF p (ks.drop i) nm)
  (fun A _=>match A.t 9 with | .lit (.int _ i)=>((ks.length:Int)-i).toNat | _=>0) ?_ ?_
 ·exact ⟨rfl,rfl,h2,h3,h4,h7,0,by omega,h9,hR⟩
 ·clear hR h2 h3 h4 h7 h9;rintro ⟨t,d⟩ H' ⟨rfl,rfl,h2,h3,h4,h7,i,hi,h9,hR⟩;dsimp only at h2 h3 h4 h7 h9;delta Zni Za Zn Zr Zb Zd Zk Zo Zc Zm;by_cases hlt:i<ks.length
  ·have hil:(i:Int)<(ks.length:Int):=by omega
   have hdi:=XI hlt;rw [ZjC hlt] at hR;replace hR:=ZpM hR;have ihi:=ih i hlt;clear ih
   (repeat' (first | (simp only [↓Zz,ZA,ptrV,ZpI,ZpJ,ZpL,ZR,Xn,Ye,Yd,ZU,en_129, *]) | (refine Yh ?_ ?_<;>intro) | (refine ZG ?_) | (refine ZJ mixed (fun _ _ _ _ e h=>⟨e.trans h.1,h.2⟩) _ (ZpN _) ?_) | (refine ZpQ (ihi) ?_) | (with_reducible refine And.intro ?_ ?_)))
   all_goals try rw [ZK (n:=(i:Int)+1) (by omega) (by omega)]
   all_goals first
    | omega
    | exact hs
    | (have hne:(!decide (Ex.shF p ks[i] nm=0))=true:=by assumption
       rw [hR.out,if_neg (by simpa using hne)])
    | (have hne:(!decide (Ex.shF p ks[i] nm=0))=false:=by assumption
       exact ⟨i+1,by omega,rfl,by rw [hR.out,if_pos (by simpa using hne)]⟩)
  ·have hil:¬ (i:Int)<(ks.length:Int):=by omega
   rw [Zp9 (by omega)] at hR;have hR:R=0:=hR;subst hR
   (repeat' (first | (simp only [↓Zz,ZA,ptrV,ZpI,ZpJ, *]) | (refine ZV rfl (fun _ _ _ h=>h) ?_)))
   delta Znj Zf
   (repeat' (first | (simp only [↓Zz,ZA,ZpI,ZpJ, *]) | (refine ZG ?_)))
   all_goals try exact hs
theorem rsh_node {p:Pr} {op nk ac af:Int} {name:ByteArray} {kids:List Ex} {m nb hb:Bool} {nm vars:List ByteArray} {R:Int} (hN:kids.length≤1099511627776) (hvl:vars.length≤1099511627776) (hnk:(kids.length:Int)=nk) (hmm:∀ x,x∈nm↔x∈vars)
 (ih:∀ (nm' vars':List ByteArray),(∀ x,x∈nm'↔x∈vars')→vars'.length≤vars.length+1→∀ i (h:i<kids.length),PureF Tryz.prog 129 [prV p,exV kids[i],strsV vars'] (iV (kids[i].shF p nm')))
 (hn:PureF Tryz.prog 87 [sV name] (boolV nb)) (hc:PureF Tryz.prog 88 [cosV p.cons,sV name] (iV ac)) (hf:PureF Tryz.prog 89 [fusV p.funs,sV name] (iV af))
 (hat:ac = -1∨∃ j:Nat,∃ h:j<p.cons.length,ac=j) (hhas:PureF Tryz.prog 127 [strsV vars,sV name] (boolV hb))
 (hm:m=if op=1∨op=2 then decide (0<nk) || !nb else if op=3 then !nb else if op=4 then decide (nk<2) || !decide (name={ data:=#[] }) else if op=5 then !decide (nk=1) || !nb else true)
 (o:Int) (ho:o=if m=true then 411 else if (op=2∧af<0)∨(op=3∧ac<0) then 9 else if op=3∧¬ nk=(match p.cons[ac.toNat]? with | some c=>c.arity | none=>0) then 5 else if op=1∧hb=false then 411 else 0)
 (hR:R=if o=0 then shsF p kids (if op=5 then name::nm else nm) else o):PureF Tryz.prog 129 [prV p,.agg [iV op,sV name,encS exE kids],strsV vars] (iV R):=by
 refine Zp4 fun H=>?_
 refine ZE fd129 (by simp) ?_;delta c129 Zj Zf Zd Zb Ze Zc Zm Za Zp Zr Zq Zl;by_cases h1:op=1
 ·subst h1;by_cases hk:0<nk
  ·have hR':=ZpM (show (411:Int)=R by rw [hR,ho,hm]; simp [hk]);clear hR ho hm ih hmm
   (repeat' (first | (simp only [↓Zz,ZA,ptrV,intV,ZpI,ZpJ,reduceCtorEq,ZD,ZpL,undef,Zqe,Zqi,ZR,ZO,Ye,ZQ,ZU, *]) | (refine ZG ?_) | (refine ZB fun zr zh=>?_; have zg:=zh; (try simp only [ZpO] at zg)) | (exact ZpN _) | (refine ZpS ?_ ?_) | (with_reducible refine And.intro ?_ ?_)))
   all_goals first
    | rw [hR'.out]
    | (rename_i r3 n3 n3'; exact (ZpR n3).of_set zg.2)
  ·cases nb with
   | false =>
     have hR':=ZpM (show (411:Int)=R by rw [hR,ho,hm]; simp [hk]);clear hR ho hm ih hmm
     (repeat' (first | (simp only [↓Zz,ZA,ptrV,intV,boolV,ZpI,ZpJ,reduceCtorEq,ZN,ZD,ZpL,undef,Zp5,Zqe,Zqi,ZR,ZO,ZZ,Ye,ZQ,ZW,ZU,Zau, *]) | (refine ZG ?_) | (refine ZB fun zr zh=>?_; have zg:=zh; (try simp only [ZpO] at zg)) | (exact ZpN _) | (refine ZpS ?_ ?_) | (refine ZpQ (hn) ?_) | (with_reducible refine And.intro ?_ ?_)))
     all_goals first
      | rw [hR'.out]
      | (rename_i r3 n3 n3'; exact (ZpR n3).of_set zg.2)
   | true =>
     cases hb with
     | false =>
       have hR':=ZpM (show (411:Int)=R by rw [hR,ho,hm]; simp [hk]);clear hR ho hm ih hmm
       (repeat' (first | (simp only [↓Zz,ZA,ptrV,intV,boolV,ZpI,ZpJ,reduceCtorEq,ZN,ZD,ZpL,undef,Zp5,Zqe,Zqi,ZR,ZO,ZZ,Ye,ZQ,ZW,ZU,Zau,ZfV,Zdb,ZfG, *]) | (refine ZG ?_) | (refine ZJ mixed (fun _ _ _ _ e h=>⟨e.trans h.1,h.2⟩) _ (ZpN _) ?_) | (refine ZB fun zr zh=>?_; have zg:=zh; (try simp only [ZpO] at zg)) | (exact ZpN _) | (refine ZpS ?_ ?_) | (refine ZpQ (hn) ?_) | (refine ZpQ (hhas) ?_) | (with_reducible refine And.intro ?_ ?_)))
       all_goals first
        | rw [hR'.out]
        | (rename_i r3 n3 n3'; exact (ZpR n3).of_set zg.2)
     | true =>
       have hR':=ZpM (show R=shsF p kids nm by rw [hR,ho,hm]; simp [hk]);replace hmm:=ZpM hmm;clear hR ho hm
       (repeat' (first | (simp only [↓Zz,ZA,ptrV,intV,boolV,ZpI,ZpJ,reduceCtorEq,ZN,ZD,ZpL,undef,Zp5,Zqe,Zqi,ZR,ZO,ZZ,Ye,ZQ,ZW,ZU,Zau,ZfV,Zdb,ZfG, *]) | (refine ZJ mixed (fun _ _ _ _ e h=>⟨e.trans h.1,h.2⟩) _ (ZpN _) ?_) | (refine ZB fun zr zh=>?_; have zg:=zh; (try simp only [ZpO] at zg)) | (exact ZpN _) | (refine ZpQ (hn) ?_) | (refine ZpQ (hhas) ?_) | (with_reducible refine And.intro ?_ ?_)))
       rename_i r3 n3 n3';refine ZdK (op:=1) (name:=name) (ks:=kids) (nm:=nm) (vars:=vars) (r3:=r3) (r4:=zr) hN (fun i h=>ih nm vars hmm.out (by omega) i h) hR'.out (by simp only [ZC,ZpI,if_false, *]<;>rfl) (by simp only [ZC,ZpI,if_true,if_false, *]<;>rfl) (by simp only [ZC,ZpI,if_true,if_false, *]<;>rfl) (by simp only [ZC,ZpI,if_true,if_false, *]<;>rfl) (by simp only [ZC,ZpI,if_true,if_false, *]<;>rfl) (by simp only [ZpU, *,if_true,if_false]<;>rfl) (ZpP _ _ _) ((ZpR n3).of_set zg.2)
 ·by_cases h2:op=2
  ·subst h2;by_cases hk:0<nk
   ·have hR':=ZpM (show (411:Int)=R by rw [hR,ho,hm]; simp [hk]);clear hR ho hm ih hmm
    (repeat' (first | (simp only [↓Zz,ZA,ptrV,intV,ZpI,ZpJ,reduceCtorEq,ZD,ZpL,undef,Zqe,Zqi,ZR,ZO,Ye,ZQ,ZU, *]) | (refine ZG ?_) | (refine ZB fun zr zh=>?_; have zg:=zh; (try simp only [ZpO] at zg)) | (exact ZpN _) | (refine ZpS ?_ ?_) | (with_reducible refine And.intro ?_ ?_)))
    all_goals first
     | rw [hR'.out]
     | (rename_i r3 n3 n3'; exact (ZpR n3).of_set zg.2)
   ·cases nb with
    | false =>
      have hR':=ZpM (show (411:Int)=R by rw [hR,ho,hm]; simp [hk]);clear hR ho hm ih hmm
      (repeat' (first | (simp only [↓Zz,ZA,ptrV,intV,boolV,ZpI,ZpJ,reduceCtorEq,ZN,ZD,ZpL,undef,Zp5,Zqe,Zqi,ZR,ZO,ZZ,Ye,ZQ,ZW,ZU,Zau, *]) | (refine ZG ?_) | (refine ZB fun zr zh=>?_; have zg:=zh; (try simp only [ZpO] at zg)) | (exact ZpN _) | (refine ZpS ?_ ?_) | (refine ZpQ (hn) ?_) | (with_reducible refine And.intro ?_ ?_)))
      all_goals first
       | rw [hR'.out]
       | (rename_i r3 n3 n3'; exact (ZpR n3).of_set zg.2)
    | true =>
      by_cases haf:af<0
      ·have hR':=ZpM (show (9:Int)=R by rw [hR,ho,hm]; simp [hk,haf]);clear hR ho hm ih hmm
       (repeat' (first | (simp only [↓Zz,ZA,ptrV,intV,boolV,ZpI,ZpJ,reduceCtorEq,ZN,ZD,ZpL,undef,Zp5,Zqe,Zqi,ZR,ZO,ZZ,Xp,Ye,ZQ,ZW,WS,ZU,Zau,ZfV, *]) | (refine ZG ?_) | (refine ZB fun zr zh=>?_; have zg:=zh; (try simp only [ZpO] at zg)) | (exact ZpN _) | (refine ZpS ?_ ?_) | (refine ZpQ (hn) ?_) | (refine ZpQ (hf) ?_) | (with_reducible refine And.intro ?_ ?_)))
       all_goals first
        | rw [hR'.out]
        | (rename_i r3 n3 n3'; exact (ZpR n3).of_set zg.2)
      ·have hR':=ZpM (show R=shsF p kids nm by rw [hR,ho,hm]; simp [hk,haf]);replace hmm:=ZpM hmm;clear hR ho hm
       (repeat' (first | (simp only [↓Zz,ZA,ptrV,intV,boolV,ZpI,ZpJ,reduceCtorEq,ZN,ZD,ZpL,undef,Zp5,Zqe,Zqi,ZR,ZO,ZZ,Xp,Ye,ZQ,ZW,WS,ZU,Zau,ZfV,Zdb,ZfG, *]) | (refine ZJ mixed (fun _ _ _ _ e h=>⟨e.trans h.1,h.2⟩) _ (ZpN _) ?_) | (refine ZB fun zr zh=>?_; have zg:=zh; (try simp only [ZpO] at zg)) | (exact ZpN _) | (refine ZpQ (hn) ?_) | (refine ZpQ (hf) ?_) | (with_reducible refine And.intro ?_ ?_)))
       rename_i r3 n3 n3';refine ZdK (op:=2) (name:=name) (ks:=kids) (nm:=nm) (vars:=vars) (r3:=r3) (r4:=zr) hN (fun i h=>ih nm vars hmm.out (by omega) i h) hR'.out (by simp only [ZC,ZpI,if_false, *]<;>rfl) (by simp only [ZC,ZpI,if_true,if_false, *]<;>rfl) (by simp only [ZC,ZpI,if_true,if_false, *]<;>rfl) (by simp only [ZC,ZpI,if_true,if_false, *]<;>rfl) (by simp only [ZC,ZpI,if_true,if_false, *]<;>rfl) (by simp only [ZpU, *,if_true,if_false]<;>rfl) (ZpP _ _ _) ((ZpR n3).of_set zg.2)
  ·by_cases h3:op=3
   ·subst h3;cases nb with
    | false =>
      have hR':=ZpM (show (411:Int)=R by rw [hR,ho,hm]; simp);clear hR ho hm ih hmm
      (repeat' (first | (simp only [↓Zz,ZA,ptrV,intV,boolV,ZpI,ZpJ,reduceCtorEq,ZN,ZD,ZpL,undef,Zp5,Zqe,Zqi,ZR,ZO,ZZ,Ye,ZQ,ZW,ZU,Zau, *]) | (refine ZG ?_) | (refine ZB fun zr zh=>?_; have zg:=zh; (try simp only [ZpO] at zg)) | (exact ZpN _) | (refine ZpS ?_ ?_) | (refine ZpQ (hn) ?_) | (with_reducible refine And.intro ?_ ?_)))
      all_goals first
       | rw [hR'.out]
       | (rename_i r3 n3 n3'; exact (ZpR n3).of_set zg.2)
    | true =>
      rcases hat with rfl | ⟨j,hj,rfl⟩
      ·have hR':=ZpM (show (9:Int)=R by rw [hR,ho,hm]; simp);clear hR ho hm ih hmm
       (repeat' (first | (simp only [↓Zz,ZA,ptrV,intV,boolV,ZpI,ZpJ,reduceCtorEq,ZN,ZD,ZpL,undef,Zp5,Zqe,Zqi,ZqG,ZR,ZO,ZZ,WR,Ye,ZQ,ZW,Za6,ZU,Zau,ZfV,Zdb, *]) | (refine ZG ?_) | (refine ZB fun zr zh=>?_; have zg:=zh; (try simp only [ZpO] at zg)) | (exact ZpN _) | (refine ZpS ?_ ?_) | (refine ZpQ (hn) ?_) | (refine ZpQ (hc) ?_) | (with_reducible refine And.intro ?_ ?_)))
       all_goals first
        | rw [hR'.out]
        | (rename_i r3 n3 n3'; exact (ZpR n3).of_set zg.2)
      ·have hcd:=Zaj hj;have hjl:(j:Int)<(p.cons.length:Int):=by omega
       have hj0:¬ (j:Int)<0:=by omega
       by_cases hka:nk=p.cons[j].arity
       ·have hR':=ZpM (show R=shsF p kids nm by rw [hR,ho,hm]; simp [hj,hka,hj0]);replace hmm:=ZpM hmm;clear hR ho hm
        (repeat' (first | (simp only [↓Zz,ZA,ptrV,intV,boolV,ZpI,ZpJ,reduceCtorEq,ZN,ZD,ZpL,undef,Zp5,Zqe,Zqi,ZR,ZO,ZZ,WR,ZaL,Ye,ZQ,ZW,Za6,ZU,JJ,Zau,ZfV,Zdb,ZfG, *]) | (refine ZJ mixed (fun _ _ _ _ e h=>⟨e.trans h.1,h.2⟩) _ (ZpN _) ?_) | (refine ZB fun zr zh=>?_; have zg:=zh; (try simp only [ZpO] at zg)) | (exact ZpN _) | (refine ZpQ (hn) ?_) | (refine ZpQ (hc) ?_) | (with_reducible refine And.intro ?_ ?_)))
        rename_i r3 n3 n3';refine ZdK (op:=3) (name:=name) (ks:=kids) (nm:=nm) (vars:=vars) (r3:=r3) (r4:=zr) hN (fun i h=>ih nm vars hmm.out (by omega) i h) hR'.out (by simp only [ZC,ZpI,if_false, *]<;>rfl) (by simp only [ZC,ZpI,if_true,if_false, *]<;>rfl) (by simp only [ZC,ZpI,if_true,if_false, *]<;>rfl) (by simp only [ZC,ZpI,if_true,if_false, *]<;>rfl) (by simp only [ZC,ZpI,if_true,if_false, *]<;>rfl) (by simp only [ZpU, *,if_true,if_false]<;>rfl) (ZpP _ _ _) ((ZpR n3).of_set zg.2)
       ·have hR':=ZpM (show (5:Int)=R by rw [hR,ho,hm]; simp [hj,hka,hj0]);clear hR ho hm ih hmm
        (repeat' (first | (simp only [↓Zz,ZA,ptrV,intV,boolV,ZpI,ZpJ,reduceCtorEq,ZN,ZD,ZpL,undef,Zp5,Zqe,Zqi,ZR,ZO,ZZ,WR,ZaL,Ye,ZQ,ZW,Za6,ZU,JJ,Zau,ZfV,Zdb, *]) | (refine ZG ?_) | (refine ZJ mixed (fun _ _ _ _ e h=>⟨e.trans h.1,h.2⟩) _ (ZpN _) ?_) | (refine ZB fun zr zh=>?_; have zg:=zh; (try simp only [ZpO] at zg)) | (exact ZpN _) | (refine ZpS ?_ ?_) | (refine ZpQ (hn) ?_) | (refine ZpQ (hc) ?_) | (with_reducible refine And.intro ?_ ?_)))
        all_goals first
         | rw [hR'.out]
         | (rename_i r3 n3 n3'; exact (ZpR n3).of_set zg.2)
   ·by_cases h4:op=4
    ·subst h4;by_cases hk:nk<2
     ·have hR':=ZpM (show (411:Int)=R by rw [hR,ho,hm]; simp [hk]);clear hR ho hm ih hmm
      (repeat' (first | (simp only [↓Zz,ZA,ptrV,intV,ZpI,ZpJ,reduceCtorEq,ZN,ZD,ZpL,undef,Zp5,Zqe,Zqi,ZR,ZO,Ye,ZQ,ZU, *]) | (refine ZG ?_) | (refine ZB fun zr zh=>?_; have zg:=zh; (try simp only [ZpO] at zg)) | (exact ZpN _) | (refine ZpS ?_ ?_) | (with_reducible refine And.intro ?_ ?_)))
      all_goals first
       | rw [hR'.out]
       | (rename_i r3 n3 n3'; exact (ZpR n3).of_set zg.2)
     ·by_cases hnn:name={ data:=#[] }
      ·have hR':=ZpM (show R=shsF p kids nm by rw [hR,ho,hm]; simp [hk,hnn]);replace hmm:=ZpM hmm;clear hR ho hm
       (repeat' (first | (simp only [↓Zz,ZA,↓XE,ptrV,intV,ZpI,ZpJ,reduceCtorEq,ZN,ZD,ZpL,undef,Zp5,Zqe,Zqi,ZR,ZO,ZZ,Ye,ZQ,ZW,ZU,Zau,ZfV,Zdb,ZfG, *]) | (refine ZJ mixed (fun _ _ _ _ e h=>⟨e.trans h.1,h.2⟩) _ (ZpN _) ?_) | (refine ZB fun zr zh=>?_; have zg:=zh; (try simp only [ZpO] at zg)) | (exact ZpN _) | (with_reducible refine And.intro ?_ ?_)))
       rename_i r3 n3 n3';refine ZdK (op:=4) (name:={ data:=#[] }) (ks:=kids) (nm:=nm) (vars:=vars) (r3:=r3) (r4:=zr) hN (fun i h=>ih nm vars hmm.out (by omega) i h) hR'.out (by simp only [ZC,ZpI,if_false, *]<;>rfl) (by simp only [ZC,ZpI,if_true,if_false, *]<;>rfl) (by simp only [ZC,ZpI,if_true,if_false, *]<;>rfl) (by simp only [ZC,ZpI,if_true,if_false, *]<;>rfl) (by simp only [ZC,ZpI,if_true,if_false, *]<;>rfl) (by simp only [ZpU, *,if_true,if_false]<;>rfl) (ZpP _ _ _) ((ZpR n3).of_set zg.2)
      ·have hR':=ZpM (show (411:Int)=R by rw [hR,ho,hm]; simp [hk,hnn]);clear hR ho hm ih hmm
       (repeat' (first | (simp only [↓Zz,ZA,↓XE,ptrV,intV,ZpI,ZpJ,reduceCtorEq,ZN,ZD,ZpL,undef,Zp5,Zqe,Zqi,ZR,ZO,ZZ,Ye,ZQ,ZW,ZU, *]) | (refine ZG ?_) | (refine ZB fun zr zh=>?_; have zg:=zh; (try simp only [ZpO] at zg)) | (exact ZpN _) | (refine ZpS ?_ ?_) | (with_reducible refine And.intro ?_ ?_)))
       all_goals first
        | rw [hR'.out]
        | (rename_i r3 n3 n3'; exact (ZpR n3).of_set zg.2)
    ·by_cases h5:op=5
     ·subst h5;by_cases hk:nk=1
      ·cases nb with
       | false =>
         have hR':=ZpM (show (411:Int)=R by rw [hR,ho,hm]; simp [hk]);clear hR ho hm ih hmm
         (repeat' (first | (simp only [↓Zz,ZA,ptrV,intV,boolV,ZpI,ZpJ,reduceCtorEq,ZN,ZD,ZpL,undef,Zqe,Zqi,ZR,ZO,ZZ,Ye,ZQ,ZW,ZU,Zau, *]) | (refine ZG ?_) | (refine ZB fun zr zh=>?_; have zg:=zh; (try simp only [ZpO] at zg)) | (exact ZpN _) | (refine ZpS ?_ ?_) | (refine ZpQ (hn) ?_) | (with_reducible refine And.intro ?_ ?_)))
         all_goals first
          | rw [hR'.out]
          | (rename_i r3 n3 n3'; exact (ZpR n3).of_set zg.2)
       | true =>
         have hR':=ZpM (show R=shsF p kids (name::nm) by rw [hR,ho,hm]; simp [hk]);replace hmm:=ZpM hmm;clear hR ho hm
         (repeat' (first | (simp only [↓Zz,ZA,ptrV,intV,boolV,ZpI,ZpJ,Zp1,reduceCtorEq,ZN,ZD,fillV,ZpL,undef,Zqe,Zqi,ZH,ZH,ZR,ZO,ZZ,Ye,ZQ,ZW,ZU,Xy,Jd,Zau,ZfV,Zdb,ZfG, *]) | (refine ZJ mixed (fun _ _ _ _ e h=>⟨e.trans h.1,h.2⟩) _ (ZpN _) ?_) | (refine ZB fun zr zh=>?_; have zg:=zh; (try simp only [ZpO] at zg)) | (exact ZpN _) | (refine ZpQ (hn) ?_) | (with_reducible refine And.intro ?_ ?_)))
         rename_i r3 n3 n3';have hsr:∀ b1 b2,SubH H ((H.set r3 b1).set zr b2):=fun _ _=>(ZpR n3).of_set zg.2
         refine (OutE.start (ZpN _)).append Xy Jd rfl (by omega) (Zex (enc:=strE) (k:=1) (fun _=>rfl) _ false vars) (ZdE Zn8 vars) (by omega) (by omega) (fun h0=>by rw [ZqD h0]; rfl) (fun v' H' ho=>?_);have k4:=ho.sub _ _ (ZpP _ _ _);rw [Zp2,List.nil_append] at ho;replace ho:=ZpM ho
         (repeat' (first | (simp only [↓Zz,ZA,ZpI,ZpJ,Zp1,fillV,setAt,ZpL,ZH,ZH,ZZ,ZW,Xy,Jd, *])))
         refine ho.out.append1 (xs:=[sV name]) Xy Jd rfl (by omega) rfl rfl (by omega) (by omega) (fun v2 H2 ho2=>?_);have e1:encC strE vars++[sV name]=encC strE (vars++[name]):=by rw [Yl]; rfl
         have e2:vars.length+1=(vars++[name]).length:=by simp
         rw [e1,e2] at ho2;have hc2:=ho2.cells.1;have k42:=ho2.sub _ _ (ZpP _ _ _);replace ho2:=ZpM ho2;clear e1 e2
         (repeat' (first | (simp only [↓Zz,ZA,ZpI,ZpJ, *])))
         refine WN (OutE.ghost (i:=2) (e:=9) (k:=1) (n:=(vars++[name]).length) (cs:=encC strE (vars++[name])) (by simp only [ZC,ZpI,if_true,if_false]; exact ho2.out) _) ?_;refine ZdK (op:=5) (name:=name) (ks:=kids) (nm:=name::nm) (vars:=vars++[name]) (r3:=r3) (r4:=zr) hN (fun i h=>ih _ _ (fun x=>?_) (by simp) i h) hR'.out (by simp only [ZC,ZpI,if_true,if_false, *]<;>rfl) (by simp only [ZC,ZpI,if_true,if_false, *]<;>rfl) (by simp only [ZC,ZpI,if_true,if_false, *]<;>rfl) (by simp only [ZC,ZpI,if_true,if_false, *]<;>rfl) (by simp only [ZC,ZpI,if_true,if_false, *]<;>rfl) (by rw [ZpV _ _ zg.1.2]; exact ZpP _ _ _) (ZpP _ _ _) (hsr _ _)
         have:=hmm.out x
         simp only [List.mem_cons,List.mem_append,List.not_mem_nil,or_false,this];exact Or.comm
      ·have hR':=ZpM (show (411:Int)=R by rw [hR,ho,hm]; simp [hk]);clear hR ho hm ih hmm
       (repeat' (first | (simp only [↓Zz,ZA,ptrV,intV,ZpI,ZpJ,reduceCtorEq,ZN,ZD,ZpL,undef,Zqe,Zqi,ZR,ZO,Ye,ZQ,ZU, *]) | (refine ZG ?_) | (refine ZB fun zr zh=>?_; have zg:=zh; (try simp only [ZpO] at zg)) | (exact ZpN _) | (refine ZpS ?_ ?_) | (with_reducible refine And.intro ?_ ?_)))
       all_goals first
        | rw [hR'.out]
        | (rename_i r3 n3 n3'; exact (ZpR n3).of_set zg.2)
     ·have hR':=ZpM (show (411:Int)=R by rw [hR,ho,hm]; simp [h1,h2,h3,h4,h5]);clear hR ho hm ih hmm;by_cases hlo:op<1
      ·(repeat' (first | (simp only [↓Zz,ZA,ptrV,intV,ZpI,ZpJ,reduceCtorEq,ZN,ZD,ZpL,undef,ZR,ZO,Ye,ZQ,ZU, *]) | (refine ZG ?_) | (refine ZB fun zr zh=>?_; have zg:=zh; (try simp only [ZpO] at zg)) | (exact ZpN _) | (refine ZpS ?_ ?_) | (with_reducible refine And.intro ?_ ?_)))
       all_goals first
        | rw [hR'.out]
        | (rename_i r3 n3 n3'; exact (ZpR n3).of_set zg.2)
      ·have hhi:5<op:=by omega
       (repeat' (first | (simp only [↓Zz,ZA,ptrV,intV,ZpI,ZpJ,reduceCtorEq,ZD,ZpL,undef,ZR,ZO,Ye,ZQ,ZU, *]) | (refine ZG ?_) | (refine ZB fun zr zh=>?_; have zg:=zh; (try simp only [ZpO] at zg)) | (exact ZpN _) | (refine ZpS ?_ ?_) | (with_reducible refine And.intro ?_ ?_)))
       all_goals first
        | rw [hR'.out]
        | (rename_i r3 n3 n3'; exact (ZpR n3).of_set zg.2)
theorem Zpa (p:Pr) (hpc:p.cons.length≤1099511627776) (hpf:p.funs.length≤1099511627776):∀ (n:Nat) (e:Ex) (nm vars:List ByteArray),e.sz<n→vars.length+e.sz≤1099511627776→e.nmOk→(∀ x,x∈nm↔x∈vars)→PureF Tryz.prog 129 [prV p,exV e,strsV vars] (iV (e.shF p nm)):=by
 intro n
 induction n with
 | zero=>intro e nm vars h0; omega
 | succ n ih =>
   intro e nm vars h0 hs hnm hmm;have z:=e.sz_eq;have hkl:=YN e.kids;rw [Ex.nmOk_iff] at hnm
   have hh:hasF nm e.name=hasF vars e.name:=by
    cases h1:hasF nm e.name with
    | true=>exact (JT.2 ((hmm _).1 (JT.1 h1))).symm
    | false =>
      cases h2:hasF vars e.name with
      | false=>rfl
      | true=>rw [JT.2 ((hmm _).2 (JT.1 h2))] at h1; cases h1
   refine rsh_node (nk:=e.kids.length) (ac:=atCo p.cons e.name) (af:=atFu p.funs e.name) (m:=misF e) (nb:=nameB e.name) (hb:=hasF nm e.name) (nm:=nm) (by omega) (by omega) rfl hmm (fun nm' vars' hm' hl i h=>?_) (Zf3 _ hnm.1) (Zed p.cons e.name hpc) (ZjL p.funs e.name hpf) ?_ (by rw [hh]; exact ZjM vars e.name (by omega)) rfl (ownF p e nm) rfl (e.shF_eq p nm)
   ·have:=Ya (ZpW h)
    exact ih _ _ _ (by omega) (by omega) (hnm.2 _ (ZpW h)) hm'
   ·rcases WI (fun c:Co=>decide (c.name=e.name)) p.cons with ⟨h,_⟩ | ⟨j,h,hj,_⟩
    ·exact .inl h
    ·exact .inr ⟨j,h,hj⟩
end Go.PV.YtglpmlbbaedbiaaGreat
end
section
open Go.PV.AH renaming set_none→ZpO,get→ZpU,set_same→ZpP
open Go.PV.GhL renaming cons→ZpZ
open Go.PV.Hold renaming mk→ZpM
open Go.PV.PureF renaming use→ZpQ,forget→Zp4
open Go.PV.SubH renaming refl→ZpN,new→ZpR,of_set→ZpS
open List renaming take_append_drop→ZqV,length_take→ZqI,drop→ZpL,take_of_length_le→Zqr,getElem_mem→ZpW,drop_eq_nil_of_le→Zp9
open Nat renaming reduceEqDiff→ZpI,reduceLT→ZpJ,reduceLeDiff→Zp1
open Option renaming map_none→Zqz,map_some→Zp6
set_option maxRecDepth 20000
set_option maxHeartbeats 8000000
namespace Go.PV.YtglpmlbbaedbiaaGreat
open Go Go.Proofs
theorem rtakeStr {l:List ByteArray} {n:ByteArray} {i:Nat} {H:AH} {K:VE→AH→Prop} (hi:i≤l.length) (hl:l.length≤1099511627776) (hK:K (.ret (boolV (hasF (l.take i) n))) H):ZT Tryz.prog 127 [.slice false i (encC strE l),sV n] H K:=by
 have e:encC strE l=encC strE (l.take i)++encC strE (l.drop i):=by rw [← Yl,ZqV]
 rw [e];refine Yy (ZpZ (GhV.trunc _ _ _ _ _) (GhL.refl _ _)) ?_;have el:(l.take i).length=i:=by rw [ZqI]; omega
 rw [show VV.slice false i (encC strE (l.take i))=strsV (l.take i) from by rw [strsV,encS,el]];exact (ZjM (l.take i) n (by omega)).use hK
structure RClOk (c:Cl):Prop where
 pats:pasSz c.pats≤1099511627776
 names:∀ q∈c.pats,q.nmOk
 body:2 * c.body.sz+2 * pasSz c.pats≤1099511627776
 bnames:c.body.nmOk
def rcQ (H0:AH) (R:Int):APost:=YI Tryz.prog [.tmp 6] fun e H'=>e=.ret (iV R)∧SubH H0 H'
theorem Zkc {p:Pr} {c:Cl} {vs:List ByteArray} {t:Nat→VV} {H0 B:AH} {r3 r5:Nat} {R:Int} (hpc:p.cons.length≤1099511627776) (hpf:p.funs.length≤1099511627776) (hc:RClOk c) (hvs:vs.length≤pasSz c.pats) (hR:R=if 1000<c.body.sz then 7 else if 100<c.body.dp then 6 else c.body.shF p vs.reverse)
 (h3:t 3=ptrV r3 0) (h5:t 5=ptrV r5 0) (h7:t 7=strsV vs) (k3:B r3=some (.cells 25 [cosV p.cons,fusV p.funs] 0)) (k5:B r5=some (.cells 124 (clE c) 0)) (hs:SubH H0 B) :
 ACx ⟨Tryz.prog,89,none⟩ c90_1 (rcQ H0 R) ⟨t,[]⟩ B:=by
 have hb:=hc.body;have hsz:=ZmL c.body (by omega);have hsh:=Zpa p hpc hpf (c.body.sz+1) c.body vs.reverse vs (by omega) (by omega) hc.bnames (fun x=>List.mem_reverse);replace hR:=ZpM hR;delta c90_1 Zd Zb Zo Zr Za Zh Zc Zm Zf;refine ZV rfl (fun _ _ _ h=>h) ?_
 (repeat' (first | (simp only [↓Zz,ZA,ZI,ptrV,ZpI,ZpJ,reduceCtorEq,ZpL,ZdS,Yd,Xn,en_128,en_129, *]) | (refine ZX ?_ ?_<;>intro) | (refine ZG ?_) | (refine ZpQ (hsz) ?_) | (refine ZpQ (hsh) ?_)))
 all_goals first
  | exact hs
  | (have h:1000<(c.body.sz:Int):=by assumption
     rw [hR.out,if_pos (by omega)])
  | (have h:¬ 1000<(c.body.sz:Int):=by assumption
     have h':100<(c.body.dp:Int):=by assumption
     rw [hR.out,if_neg (by omega),if_pos (by omega)])
  | (have h:¬ 1000<(c.body.sz:Int):=by assumption
     have h':¬ 100<(c.body.dp:Int):=by assumption
     rw [hR.out,if_neg (by omega),if_neg (by omega)])
theorem Zlm {p:Pr} {c:Cl} {vs:List ByteArray} {t:Nat→VV} {H0 B:AH} {r3 r5:Nat} {R:Int} (hpc:p.cons.length≤1099511627776) (hpf:p.funs.length≤1099511627776) (hc:RClOk c) (hvs:vs.length≤pasSz c.pats)
 (hR:R=open Classical in if vs.Nodup then (if 1000<c.body.sz then 7 else if 100<c.body.dp then 6 else c.body.shF p vs.reverse) else 10)
 (h3:t 3=ptrV r3 0) (h5:t 5=ptrV r5 0) (h7:t 7=strsV vs) (k3:B r3=some (.cells 25 [cosV p.cons,fusV p.funs] 0)) (k5:B r5=some (.cells 124 (clE c) 0)) (hs:SubH H0 B) :
 ACx ⟨Tryz.prog,89,none⟩ c90_2 (rcQ H0 R) ⟨t,[]⟩ B:=by
 have hvl:vs.length≤1099511627776:=by have:=hc.pats; omega
 have hct:=fun (t:Nat→VV) (h:R=if 1000<c.body.sz then 7 else if 100<c.body.dp then 6 else c.body.shF p vs.reverse)=>Zkc (p:=p) (c:=c) (t:=t) (B:=B) (R:=R) (H0:=H0) (r3:=r3) (r5:=r5) hpc hpf hc hvs h
 delta c90_2 Zf;refine ZV rfl (fun _ _ _ h=>h) ?_;replace hR:=ZpM hR
 (repeat' (first | (simp only [↓Zz,ZA,ZpJ, *])))
 refine ZP (fun _ _ _ h=>h) (fun A H'=>H'=B∧A.d=[]∧A.t 3=ptrV r3 0∧A.t 5=ptrV r5 0∧A.t 7=strsV vs∧∃ i:Nat,i≤vs.length∧A.t 12=iV i∧(vs.take i).Nodup)
  (fun A _=>match A.t 12 with | .lit (.int _ i)=>((vs.length:Int)-i).toNat | _=>0) ?_ ?_
 ·exact ⟨rfl,rfl,(by simp only [ZC,ZpI,if_false, *]<;>rfl),(by simp only [ZC,ZpI,if_false, *]<;>rfl),(by simp only [ZC,ZpI,if_false, *]<;>rfl),0,by omega,(by simp only [ZC,if_true, *]<;>rfl),.nil⟩
 ·clear h3 h5 h7;rintro ⟨t,d⟩ H' ⟨rfl,rfl,h3,h5,h7,i,hi,h12,hnd⟩;dsimp only at h3 h5 h7 h12;delta b90_2 Za Ze Zn Zr Zq Zk Zb Zo Zf Zm Zc;by_cases hlt:i<vs.length
  ·have hil:(i:Int)<(vs.length:Int):=by omega
   have hdi:=Zcx hlt;have hsn:=ZhF (l:=vs.take i) (s:=vs[i]);rw [← XB hlt] at hsn;replace hsn:=ZpM hsn;replace hnd:=ZpM hnd;clear hct
   (repeat' (first | (simp only [↓Zz,ZA,ptrV,intV,boolV,ZpI,ZpJ,reduceCtorEq,YC,Zqz,Zp6,Xj,idxV,idxOk,Nat.sub_zero,ZW,Xy,ZfG, *]) | (refine Yh ?_ ?_<;>intro) | (refine ZG ?_) | (refine ZJ mixed (fun _ _ _ _ e h=>⟨e.trans h.1,h.2⟩) _ (ZpN _) ?_) | (refine rtakeStr (by omega) hvl ?_) | (with_reducible refine And.intro ?_ ?_)))
   all_goals try rw [ZK (n:=(i:Int)+1) (by omega) (by omega)]
   all_goals first
    | omega
    | exact fun h=>trivial
    | exact hs
    | (have h2:hasF (vs.take i) vs[i]=true:=by assumption
       rw [hR.out,if_neg];intro h3;exact (hsn.out.1 (ZhG h3 _)).2 (JT.1 h2))
    | (have h2:hasF (vs.take i) vs[i]=false:=by assumption
       refine ⟨i+1,by omega,rfl,hsn.out.2 ⟨hnd.out,fun h3=>?_⟩⟩;rw [JT.2 h3] at h2;cases h2)
  ·have hil:¬ (i:Int)<(vs.length:Int):=by omega
   rw [Zqr (by omega)] at hnd;have e:=hR.out;rw [if_pos hnd] at e;clear hR;replace e:=ZpM e
   (repeat' (first | (simp only [↓Zz,ZA,ptrV,intV,ZpI,ZpJ,reduceCtorEq,Xy, *])))
   exact hct _ e.out (by simp only [ZC,ZpI,if_false]; exact h3) (by simp only [ZC,ZpI,if_false]; exact h5) (by simp only [ZC,ZpI,if_false]; exact h7) k3 k5 hs
theorem Zln {p:Pr} {f:Fu} {c:Cl} (hpc:p.cons.length≤1099511627776) (hpf:p.funs.length≤1099511627776) (hc:RClOk c):PureF Tryz.prog 90 [prV p,fuV f,clV c] (iV (clErr p f c)):=by
 have hpl:=XY c.pats;have hps:=hc.pats;have hN:c.pats.length≤1099511627776:=by omega
 have hpm:∀ i (h:i<c.pats.length),c.pats[i].sz≤1099511627776:=fun i h=>by have:=Xm (ZpW h); omega
 have hp1:∀ i (h:i<c.pats.length),PureF Tryz.prog 124 [paV c.pats[i]] (.tuple [iV c.pats[i].sz,iV c.pats[i].dp]):=fun i h=>psize_ok _ (hpm i h)
 have hp2:∀ i (h:i<c.pats.length),PureF Tryz.prog 125 [cosV p.cons,paV c.pats[i]] (iV (c.pats[i].psF p.cons)):=fun i h=>Zo9 p.cons hpc _ (hpm i h) (hc.names _ (ZpW h))
 have hp3:∀ i (h:i<c.pats.length) (v:VV) (H0 H:AH),OutE H0 H 9 1 v (ZY (c.pats.take i)).length (encC strE (ZY (c.pats.take i)))→ZT Tryz.prog 126 [paV c.pats[i],v] H (vrQ H0 (ZY (c.pats.take (i+1)))):=fun i h v H0 H ho=>by
  rw [Zey h];have h1:=Ju (c.pats.take i);have h2:=ZcV c.pats (i+1);rw [Zd7 h] at h2;exact rvars_ok (c.pats[i].sz+1) c.pats[i] _ v H0 H (by omega) (by omega) ho
 have hvl:(ZY c.pats).length≤pasSz c.pats:=Ju _;clear hpl hps hpm;refine Zp4 fun H0=>?_
 refine ZE fd90 (by simp) ?_;delta c90 Zj Zf Zd Zb Ze Zn Zr Zq Zc;obtain ⟨R,hR⟩:∃ R,R=clErr p f c:=⟨_,rfl⟩
 rw [← hR];unfold clErr at hR;by_cases hfa:(c.pats.length:Int)=f.arity
 ·rw [if_pos hfa] at hR;replace hfa:=hfa.symm;have hct:=fun (t:Nat→VV) (B:AH) (r3 r5:Nat) (h:R=open Classical in if (ZY c.pats).Nodup then (if 1000<c.body.sz then 7 else if 100<c.body.dp then 6 else c.body.shF p (ZY c.pats).reverse) else 10)=>Zlm (p:=p) (c:=c) (vs:=ZY c.pats) (t:=t) (B:=B) (R:=R) (H0:=H0) (r3:=r3) (r5:=r5) hpc hpf hc hvl h
  obtain ⟨R2,hR2⟩:∃ R2,R2=(open Classical in if (YB c.pats).Nodup then ZbI p c else 10):=⟨_,rfl⟩
  rw [← hR2] at hR;replace hR:=ZpM hR;replace hR2:=ZpM hR2;replace hc:=ZpM hc
  (repeat' (first | (simp only [↓Zz,ZA,ptrV,intV,ZpI,ZpJ,Zp1,reduceCtorEq,ZD,fillV,ZpL,undef,ZH,ZH,Jg,JQ,Xk,ZQ,YQ,Xy,Jd, *]) | (refine ZB fun zr zh=>?_; have zg:=zh; (try simp only [ZpO] at zg))))
  rename_i r3 n3 n3' r4 n4 n4'
  refine ZbF (fun t H=>SubH H0 H∧H r3=some (.cells 25 [cosV p.cons,fusV p.funs] 0)∧H zr=some (.cells 124 (clE c) 0)∧t 3=ptrV r3 0∧t 5=ptrV zr 0∧t 7=.slice true 0 []∧t 8=iV 0)
   ⟨((ZpR n3).of_set n4'.2).of_set zg.2.2,(by simp only [ZpU, *,if_true,if_false]<;>rfl),ZpP _ _ _,(by simp only [ZC,ZpI,if_true,if_false, *]<;>rfl),(by simp only [ZC,ZpI,if_true,if_false, *]<;>rfl),(by simp only [ZC,ZpI,if_true,if_false, *]<;>rfl),(by simp only [ZC,ZpI,if_true,if_false, *]<;>rfl)⟩ ?_
  clear n3 n3' n4 n4' zh zg hfa;rintro t B ⟨hs,k3,k5,h3,h5,h7,h8⟩
  refine ZP (fun _ _ _ h=>h) (fun A H'=>A.d=[]∧A.t 3=ptrV r3 0∧A.t 5=ptrV zr 0∧∃ i:Nat,i≤c.pats.length∧A.t 8=iV i∧OutE B H' 9 1 (A.t 7) (ZY (c.pats.take i)).length (encC strE (ZY (c.pats.take i)))∧R=ZbH R2 p.cons (c.pats.drop i)∧∀ q∈c.pats.take i,paChk p.cons q=0)
   (fun A _=>match A.t 8 with | .lit (.int _ i)=>((c.pats.length:Int)-i).toNat | _=>0) ?_ ?_
  ·exact ⟨rfl,h3,h5,0,by omega,h8,by show OutE B B _ _ (t 7) _ _; rw [h7]; exact OutE.start (ZpN _),hR.out,by simp⟩
  ·clear hR h3 h5 h7 h8;rintro ⟨t,d⟩ H' ⟨rfl,h3,h5,i,hi,h8,ho,hR,hall⟩;dsimp only at h3 h5 h8 ho;have q3:=ho.sub _ _ k3;have q5:=ho.sub _ _ k5;have hsb:=hs.trans ho.sub;have hvc:=ho.cells.1;delta b90_1 Za Zd Zb Ze Zn Zr Zk Zo Zh Zc Zm Zf;by_cases hlt:i<c.pats.length
   ·have hil:(i:Int)<(c.pats.length:Int):=by omega
    have hdi:=Wx hlt;have h1:=hp1 i hlt;have h2:=hp2 i hlt;have h3':=fun K hK=>Zow (K:=K) (hp3 i hlt (t 7) B H' ho) hK
    rw [Zfq hlt,Zl6] at hR;have hsn:=XB hlt;have hpe:=Zl6 p.cons c.pats[i];replace hpe:=ZpM hpe;replace hsn:=ZpM hsn;replace hR:=ZpM hR;replace ho:=ZpM ho;replace hall:=ZpM hall;clear hct hp1 hp2 hp3
    (repeat' (first | (simp only [↓Zz,ZA,ZI,ptrV,intV,ZpI,ZpJ,reduceCtorEq,ZpL,Jg,WR,Xk,Zay,Za6,YQ,en_124,en_125,en_126, *]) | (refine ZX ?_ ?_<;>intro) | (refine Yh ?_ ?_<;>intro) | (refine ZG ?_) | (refine ZJ mixed (fun _ _ _ _ e h=>⟨e.trans h.1,h.2⟩) _ (ZpN _) ?_) | (refine ZpQ (h1) ?_) | (refine ZpQ (h2) ?_) | (refine h3' _ (fun v2 H2 ho2=>?_)) | (with_reducible refine And.intro ?_ ?_)))
    all_goals try rw [ZK (n:=(i:Int)+1) (by omega) (by omega)]
    all_goals first
     | omega
     | exact hsb
     | (have q1:100<(c.pats[i].sz:Int):=by assumption
        rw [hR.out,if_pos (show 100<c.pats[i].sz by omega),if_neg (by decide)])
     | (have q1:¬ 100<(c.pats[i].sz:Int):=by assumption
        have q2:50<(c.pats[i].dp:Int):=by assumption
        rw [hR.out,if_neg (show ¬ 100<c.pats[i].sz by omega),if_pos (show 50<c.pats[i].dp by omega),if_neg (by decide)])
     | (have q1:¬ 100<(c.pats[i].sz:Int):=by assumption
        have q2:¬ 50<(c.pats[i].dp:Int):=by assumption
        have q3:(!decide (Pa.psF p.cons c.pats[i]=0))=true:=by assumption
        rw [hR.out,if_neg (show ¬ 100<c.pats[i].sz by omega),if_neg (show ¬ 50<c.pats[i].dp by omega),if_neg (by simpa using q3)])
     | (have q1:¬ 100<(c.pats[i].sz:Int):=by assumption
        have q2:¬ 50<(c.pats[i].dp:Int):=by assumption
        have q3:(!decide (Pa.psF p.cons c.pats[i]=0))=false:=by assumption
        have q4:Pa.psF p.cons c.pats[i]=0:=by simpa using q3
        have e:=hpe.out;rw [if_neg (show ¬ 100<c.pats[i].sz by omega),if_neg (show ¬ 50<c.pats[i].dp by omega),q4] at e;refine ⟨i+1,by omega,rfl,ho2,?_,fun q hq=>?_⟩
        ·rw [hR.out,if_neg (show ¬ 100<c.pats[i].sz by omega),if_neg (show ¬ 50<c.pats[i].dp by omega),if_pos q4]
        ·rw [hsn.out] at hq;rcases List.mem_append.1 hq with hq | hq
         ·exact hall.out q hq
         ·simp at hq; subst hq; exact e)
     | trace_state
   ·have hil:¬ (i:Int)<(c.pats.length:Int):=by omega
    rw [Zp9 (by omega)] at hR;rw [Zqr (by omega)] at ho hall;have hvn:=ZcH hall;have e:=(show R=R2 from hR).trans hR2.out;unfold ZbI at e;rw [hvn] at e;replace e:=ZpM e;replace ho:=ZpM ho;clear hR hR2 hvn
    (repeat' (first | (simp only [↓Zz,ZA,ptrV,intV,ZpI,ZpJ,reduceCtorEq,ZpL,Jg,Xk,YQ, *])))
    refine WN (OutE.ghost (i:=7) (e:=9) (k:=1) (n:=(ZY c.pats).length) (cs:=encC strE (ZY c.pats)) (by simp only [ZC,ZpI,if_false]; exact ho.out) _) ?_;exact hct _ _ _ _ e.out (by simp only [ZC,ZpI,if_false, *]<;>rfl) (by simp only [ZC,ZpI,if_false, *]<;>rfl) (by simp only [ZC,ZpI,if_true,if_false, *]<;>rfl) k3 k5 hs
 ·rw [if_neg hfa] at hR;replace hR:=ZpM hR
  (repeat' (first | (simp only [↓Zz,ZA,ptrV,intV,ZpI,ZpJ,reduceCtorEq,ZD,ZpL,undef,Jg,JQ,Xk,ZQ,YQ, *]) | (refine ZG ?_) | (refine ZB fun zr zh=>?_; have zg:=zh; (try simp only [ZpO] at zg)) | (exact ZpN _) | (refine ZpS ?_ ?_) | (with_reducible refine And.intro ?_ ?_)))
  all_goals first
   | rw [hR.out]
   | (rename_i r3 n3 n3' r4 n4 n4'; exact ((ZpR n3).of_set n4'.2).of_set zg.2.2)
end Go.PV.YtglpmlbbaedbiaaGreat
end
section
open Go.PV.AH renaming set_none→ZpO,set_same→ZpP,ne_of→ZpK
open Go.PV.GhL renaming cons→ZpZ
open Go.PV.Hold renaming mk→ZpM
open Go.PV.PureF renaming use→ZpQ,forget→Zp4
open Go.PV.SubH renaming refl→ZpN,of_set→ZpS,new→ZpR,none→Zqp
open List renaming take_append_drop→ZqV,length_take→ZqI,getElem_mem→ZpW,drop→ZpL,drop_eq_nil_of_le→Zp9
open Nat renaming reduceLT→ZpJ,reduceEqDiff→ZpI,reduceAdd→ZpT,reduceMul→Zqu
open Option renaming map_none→Zqz,map_some→Zp6
set_option maxRecDepth 20000
set_option maxHeartbeats 8000000
namespace Go.PV.YtglpmlbbaedbiaaGreat
open Go Go.Proofs
theorem rtakeFu {l:List Fu} {n:ByteArray} {i:Nat} {H:AH} {K:VE→AH→Prop} (hi:i≤l.length) (hl:l.length≤1099511627776) (hK:K (.ret (iV (atFu (l.take i) n))) H):ZT Tryz.prog 89 [.slice false i (encC fuE l),sV n] H K:=by
 have e:encC fuE l=encC fuE (l.take i)++encC fuE (l.drop i):=by rw [← Yl,ZqV]
 rw [e];refine Yy (ZpZ (GhV.trunc _ _ _ _ _) (GhL.refl _ _)) ?_;have el:(l.take i).length=i:=by rw [ZqI]; omega
 rw [show VV.slice false i (encC fuE (l.take i))=fusV (l.take i) from by rw [fusV,encS,el]];exact (ZjL (l.take i) n (by omega)).use hK
structure RPrOk (p:Pr):Prop where
 cons:p.cons.length≤1099511627776
 funs:p.funs.length≤1099511627776
 cnames:∀ c∈p.cons,c.name.size≤1099511627776
 fnames:∀ f∈p.funs,f.name.size≤1099511627776
 cls:∀ f∈p.funs,f.cls.length≤1099511627776∧∀ c∈f.cls,RClOk c
theorem Zlo {p:Pr} {t:Nat→VV} {H0 B:AH} {r1:Nat} {R:Int} (hp:RPrOk p) (hR:R=XX p p.funs)
 (h1:t 1=ptrV r1 0) (k1:B r1=some (.cells 25 [cosV p.cons,fusV p.funs] 0)) (hs:SubH H0 B) :
 ACx ⟨Tryz.prog,110,none⟩ c54_3 (ckQ H0 R) ⟨t,[]⟩ B:=by
 have hcl:∀ i (h:i<p.funs.length) k (h':k<p.funs[i].cls.length),PureF Tryz.prog 90 [prV p,fuV p.funs[i],clV p.funs[i].cls[k]] (iV (clErr p p.funs[i] p.funs[i].cls[k])):=fun i h k h' =>
  Zln hp.cons hp.funs ((hp.cls _ (ZpW h)).2 _ (ZpW h'))
 have hcN:∀ i (h:i<p.funs.length),p.funs[i].cls.length≤1099511627776:=fun i h=>(hp.cls _ (ZpW h)).1
 have hN:=hp.funs;clear hp;delta c54_3 Zf;refine ZV rfl (fun _ _ _ h=>h) ?_;replace hR:=ZpM hR
 (repeat' (first | (simp only [↓Zz,ZA,ZpJ, *])))
 refine ZP (fun _ _ _ h=>h) (fun A H'=>H'=B∧A.d=[]∧A.t 1=ptrV r1 0∧∃ i:Nat,i≤p.funs.length∧A.t 6=iV i∧R=XX p (p.funs.drop i))
  (fun A _=>match A.t 6 with | .lit (.int _ i)=>((p.funs.length:Int)-i).toNat | _=>0) ?_ ?_
 ·exact ⟨rfl,rfl,(by simp only [ZC,ZpI,if_false, *]<;>rfl),0,by omega,(by simp only [ZC,if_true, *]<;>rfl),hR.out⟩
 ·clear hR h1;rintro ⟨t,d⟩ H' ⟨rfl,rfl,h1,i,hi,h6,hR⟩;dsimp only at h1 h6;delta b54_3 Za Zd Zb Ze Zn Zr Zf;by_cases hlt:i<p.funs.length
  ·have hil:(i:Int)<(p.funs.length:Int):=by omega
   have hdi:=Wy hlt;rw [ZeD hlt] at hR;replace hR:=ZpM hR;have hcli:=hcl i hlt;have hcNi:=hcN i hlt;clear hcl hcN
   (repeat' (first | (simp only [↓Zz,ZA,ptrV,intV,ZpI,ZpJ,reduceCtorEq,ZpL,Xp,WS,Wp, *])))
   refine ZP (fun _ _ _ h=>h) (fun A H2=>H2=H'∧A.d=[]∧A.t 1=ptrV r1 0∧A.t 6=iV i∧∃ k:Nat,k≤p.funs[i].cls.length∧A.t 7=iV k∧R=Za2 (XX p (p.funs.drop (i+1))) p p.funs[i] (p.funs[i].cls.drop k))
    (fun A _=>match A.t 7 with | .lit (.int _ k)=>((p.funs[i].cls.length:Int)-k).toNat | _=>0) ?_ ?_
   ·exact ⟨rfl,rfl,(by simp only [ZC,ZpI,if_false, *]<;>rfl),(by simp only [ZC,ZpI,if_false, *]<;>rfl),0,by omega,(by simp only [ZC,ZpI,if_true,if_false, *]<;>rfl),hR.out⟩
   ·clear hR h1 h6;rintro ⟨t,d⟩ H2 ⟨rfl,rfl,h1,h6,k,hk,h7,hR⟩;dsimp only at h1 h6 h7;delta b54_2 Za Zd Zb Zk Ze Zn Zr Zo Zc Zm;by_cases hkt:k<p.funs[i].cls.length
    ·have hkl:(k:Int)<(p.funs[i].cls.length:Int):=by omega
     have hdk:=Zc4 hkt;have hck:=hcli k hkt;rw [Zfr hkt] at hR;replace hR:=ZpM hR;clear hcli
     (repeat' (first | (simp only [↓Zz,ZA,ptrV,intV,ZpI,ZpJ,reduceCtorEq,ZpL,Xp,Jf,WS,ZaB,Zbj,Xn,Zkn,Wp,ZaC,en_90, *]) | (refine Yh ?_ ?_<;>intro) | (refine ZG ?_) | (refine ZJ mixed (fun _ _ _ _ e h=>⟨e.trans h.1,h.2⟩) _ (ZpN _) ?_) | (refine ZpQ (hck) ?_) | (with_reducible refine And.intro ?_ ?_)))
     all_goals try rw [ZK (n:=(k:Int)+1) (by omega) (by omega)]
     all_goals first
      | omega
      | exact hs
      | (have hne:(!decide (clErr p p.funs[i] p.funs[i].cls[k]=0))=true:=by assumption
         rw [hR.out,if_neg (by simpa using hne)])
      | (have hne:(!decide (clErr p p.funs[i] p.funs[i].cls[k]=0))=false:=by assumption
         exact ⟨k+1,by omega,rfl,by rw [hR.out,if_pos (by simpa using hne)]⟩)
      | trace_state
    ·have hkl:¬ (k:Int)<(p.funs[i].cls.length:Int):=by omega
     rw [Zp9 (show p.funs[i].cls.length≤k by omega)] at hR;have e:=ZpM (show R=XX p (p.funs.drop (i+1)) from hR);clear hR
     (repeat' (first | (simp only [↓Zz,ZA,ptrV,intV,ZpI,ZpJ,reduceCtorEq,ZpL,Xp,Jf,WS,Zbj,Wp,ZaC, *]) | (refine ZV rfl (fun _ _ _ h=>h) ?_)))
     delta c54_1 Za Zm Zc
     (repeat' (first | (simp only [↓Zz,ZA,ptrV,ZpI,ZpJ, *]) | (with_reducible refine And.intro ?_ ?_)))
     all_goals try rw [ZK (n:=(i:Int)+1) (by omega) (by omega)]
     all_goals first
      | omega
      | exact ⟨i+1,by omega,rfl,e.out⟩
      | trace_state
  ·have hil:¬ (i:Int)<(p.funs.length:Int):=by omega
   rw [Zp9 (by omega)] at hR;have e:=ZpM (show R=0 from hR);clear hR
   (repeat' (first | (simp only [↓Zz,ZA,ptrV,intV,ZpI,ZpJ,reduceCtorEq,ZpL,Xp,WS,Wp, *]) | (refine ZV rfl (fun _ _ _ h=>h) ?_)))
   delta c54_2 Zf
   (repeat' (first | (simp only [↓Zz,ZA,ZpI,ZpJ, *]) | (refine ZG ?_)))
   all_goals first
    | rw [e.out]
    | exact hs
theorem ZmM {p:Pr} (hp:RPrOk p):PureF Tryz.prog 54 [prV p] (iV (Jv p)):=by
 have hcc:=rCons_ok p.cons hp.cons hp.cnames;have hnm:∀ i (h:i<p.funs.length),PureF Tryz.prog 87 [sV p.funs[i].name] (boolV (nameB p.funs[i].name)):=fun i h=>Zf3 _ (hp.fnames _ (ZpW h))
 have hco:=fun n=>Zed p.cons n hp.cons
 have hN:=hp.funs;refine Zp4 fun H0=>?_
 refine ZE fd54 (by simp) ?_;delta c54 Zj Zf Zd Zb Ze Zm Zr Zo Zc Za;obtain ⟨R,hR⟩:∃ R,R=Jv p:=⟨_,rfl⟩
 rw [← hR];unfold Jv at hR;by_cases h100:100<p.funs.length
 ·rw [if_pos h100] at hR;have hl:(100:Int)<(p.funs.length:Int):=by omega
  replace hR:=ZpM hR;clear hcc hnm hco
  (repeat' (first | (simp only [↓Zz,ZA,ptrV,intV,ZpI,ZpJ,reduceCtorEq,ZD,ZpL,undef,Xp,WS,Wp, *]) | (refine ZG ?_) | (refine ZB fun zr zh=>?_; have zg:=zh; (try simp only [ZpO] at zg)) | (exact ZpN _) | (refine ZpS ?_ ?_) | (with_reducible refine And.intro ?_ ?_)))
  all_goals first
   | rw [hR.out]
   | exact ZpR zh
 ·rw [if_neg h100] at hR;have hl:¬ (100:Int)<(p.funs.length:Int):=by omega
  by_cases hcz:Zak p.cons=0
  ·rw [if_pos hcz] at hR;rw [hcz] at hcc;have hct:=fun (t:Nat→VV) (B:AH) (r1:Nat) h=>Zlo (p:=p) (t:=t) (B:=B) (R:=R) (H0:=H0) (r1:=r1) hp h
   replace hp:=ZpM hp;obtain ⟨R2,hR2⟩:∃ R2,R2=XX p p.funs:=⟨_,rfl⟩
   rw [← hR2] at hR;replace hR:=ZpM hR;replace hR2:=ZpM hR2;clear hcz
   (repeat' (first | (simp only [↓Zz,ZA,ptrV,intV,ZpI,ZpJ,reduceCtorEq,ZD,ZpL,undef,Xp,WR,WS,Za6,Wp,en_86, *]) | (refine ZB fun zr zh=>?_; have zg:=zh; (try simp only [ZpO] at zg)) | (refine ZpQ (hcc) ?_)))
   refine ZbF (fun t H=>SubH H0 H∧H zr=some (.cells 25 [cosV p.cons,fusV p.funs] 0)∧t 1=ptrV zr 0∧t 4=iV 0)
    ⟨ZpR zh,ZpP _ _ _,(by simp only [ZC,ZpI,if_true,if_false, *]<;>rfl),(by simp only [ZC,ZpI,if_true,if_false, *]<;>rfl)⟩ ?_
   clear zh zg hcc;rintro t B ⟨hs,k1,h1,h4⟩
   refine ZP (fun _ _ _ h=>h) (fun A H'=>SubH B H'∧A.d=[]∧A.t 1=ptrV zr 0∧∃ i:Nat,i≤p.funs.length∧A.t 4=iV i∧R=JG R2 p (p.funs.drop i) i)
    (fun A _=>match A.t 4 with | .lit (.int _ i)=>((p.funs.length:Int)-i).toNat | _=>0) ?_ ?_
   ·exact ⟨ZpN _,rfl,h1,0,by omega,h4,hR.out⟩
   ·clear hR h1 h4;rintro ⟨t,d⟩ H' ⟨hb,rfl,h1,i,hi,h4,hR⟩;dsimp only at h1 h4;have q1:=hb _ _ k1;delta b54_1 Za Zd Zb Ze Zn Zr Zk Zi Zg Zo Zq Zc Zf Zm Zp;by_cases hlt:i<p.funs.length
    ·have hil:(i:Int)<(p.funs.length:Int):=by omega
     have hdi:=Wy hlt;have hni:=hnm i hlt;have hci:=hco p.funs[i].name;rw [Zdl hlt] at hR;replace hR:=ZpM hR;clear hct k1 hnm hco
     (repeat' (first | (simp only [↓Zz,ZA,ptrV,intV,boolV,ZpI,ZpJ,ZpT,Zqu,reduceCtorEq,ZN,ZD,setAt,ZpL,↓ZhB,↓ZhC,undef,YC,Zqz,Zp6,Xj,idxV,idxOk,Nat.sub_zero,Xp,ZfS,WR,JQ,Jf,WS,ZaB,ZW,Za6,ZQ,Zbj,Zeo,ZaW,Wp,ZaC,Zau,Zdb,ZfV, *]) | (refine YW ?_ ?_<;>intro) | (refine Zdi ?_ ?_<;>intro) | (refine ZX ?_ ?_<;>intro) | (refine Yh ?_ ?_<;>intro) | (refine ZG ?_) | (refine ZJ mixed (fun _ _ _ _ e h=>⟨e.trans h.1,h.2⟩) _ (ZpN _) ?_) | (refine ZB fun zr zh=>?_; have zg:=zh; (try simp only [ZpO] at zg); (try have zn_q1:=ZpK q1 zh); (try have zn_q1:=ZpK q1 zg.2); (try have zn_q1:=ZpK q1 zg.2.2)) | (exact ZpN _) | (refine ZpS ?_ ?_) | (exact Zqp (by assumption) (by assumption)) | (refine ZpQ (hni) ?_) | (refine ZpQ (hci) ?_) | (refine rtakeFu (by omega) (by omega) ?_) | (with_reducible refine And.intro ?_ ?_)))
     all_goals try rw [ZK (n:=(i:Int)+1) (by omega) (by omega)]
     all_goals first
      | exact hs.trans hb
      | exact hb.of_set (hb.none zh)
      | exact hs.none (hb.none zh)
      | exact fun h=>trivial
      | omega
      | (refine congrArg (fun z:Int=>VE.ret (iV z)) ?_
         rw [hR.out]; unfold Zbs; repeat' split
         all_goals first
          | rfl
          | omega
          | simp_all
          | (exfalso; simp_all; omega))
      | (refine ⟨i+1,by omega,rfl,?_⟩
         rw [hR.out]; unfold Zbs; repeat' split
         all_goals first
          | rfl
          | omega
          | simp_all
          | (exfalso; simp_all; omega))
      | trace_state
    ·have hil:¬ (i:Int)<(p.funs.length:Int):=by omega
     rw [Zp9 (by omega)] at hR;have e:=ZpM (show R=_ from (show R=R2 from hR).trans hR2.out);clear hR hR2
     (repeat' (first | (simp only [↓Zz,ZA,ptrV,intV,ZpI,ZpJ,reduceCtorEq,ZpL,Xp,WS,Wp, *])))
     exact hct _ _ _ e.out (by simp only [ZC,ZpI,if_false]; exact h1) q1 (hs.trans hb)
  ·rw [if_neg hcz] at hR;replace hR:=ZpM hR;clear hnm hco
   (repeat' (first | (simp only [↓Zz,ZA,ptrV,intV,ZpI,ZpJ,reduceCtorEq,ZD,ZpL,undef,Xp,WR,WS,Za6,Wp,en_86, *]) | (refine ZG ?_) | (refine ZB fun zr zh=>?_; have zg:=zh; (try simp only [ZpO] at zg)) | (exact ZpN _) | (refine ZpS ?_ ?_) | (refine ZpQ (hcc) ?_) | (with_reducible refine And.intro ?_ ?_)))
   all_goals first
    | rw [hR.out]
    | exact ZpR zh
end Go.PV.YtglpmlbbaedbiaaGreat
end
section
set_option maxRecDepth 20000
set_option maxHeartbeats 4000000
namespace Go.PV.YtglpmlbbaedbiaaGreat
open Go Go.Proofs
end Go.PV.YtglpmlbbaedbiaaGreat
end
section
set_option maxRecDepth 20000
set_option maxHeartbeats 4000000
namespace Go.PV.YtglpmlbbaedbiaaGreat
open Go Go.Proofs
end Go.PV.YtglpmlbbaedbiaaGreat
end
section
set_option maxRecDepth 20000
set_option maxHeartbeats 8000000
namespace Go.PV.YtglpmlbbaedbiaaGreat
open Go Go.Proofs
structure FuOk (p:Pr):Prop where
 nd:NdP p
 sz:∀ f∈p.funs,fuSz f≤1099511627776
 nm:∀ f∈p.funs,∀ c∈f.cls,∀ s∈ZY c.pats,s.size≤maxLen
end Go.PV.YtglpmlbbaedbiaaGreat
end
section
open Go.PV.AH renaming set_ne→ZpV
set_option maxRecDepth 20000
set_option maxHeartbeats 8000000
namespace Go.PV.YtglpmlbbaedbiaaGreat
open Go Go.Proofs
structure InOk (p:Pr):Prop where
 ok:PrOk p
 sz:∀ f∈p.funs,fuSz f≤1099511627776
 nm:∀ f∈p.funs,∀ c∈f.cls,∀ s∈ZY c.pats,s.size≤maxLen
theorem InOk.fu {p:Pr} (h:InOk p) (hc:Jv p=0):FuOk p:=⟨Zip hc,h.sz,h.nm⟩
theorem TabAt.put {H:AH} {v:VV} {p:Pr} (h:TabAt H v p) {r:Nat} {e:TypeId} {xs:List VV} {sp:Nat} (hr:H r=some (.cells e xs sp)) (b:Blk):TabAt (H.set r b) v p:=by
 obtain ⟨m1,m2,h0,h1,h2⟩:=h;exact ⟨m1,m2,h0,by rw [ZpV _ _ (JY hr h1).2]; exact h1,by rw [ZpV _ _ (JY hr h2).2]; exact h2⟩
end Go.PV.YtglpmlbbaedbiaaGreat
end
section
open Go.PV.AH renaming set_none→ZpO,get→ZpU,set_same→ZpP,set_ne→ZpV
open Go.PV.GhL renaming cons→ZpZ
open Go.PV.GhV renaming refl→Zp8
open Go.PV.Hold renaming mk→ZpM
open Go.PV.PureF renaming use→ZpQ,forget→Zp4
open Go.PV.SubH renaming refl→ZpN,of_set→ZpS,new→ZpR
open Int renaming reduceLT→Zqe,reduceEq→Zp5,reduceNeg→ZqG
open List renaming drop→ZpL,drop_eq_nil_of_le→Zp9,eq_nil_of_length_eq_zero→ZqD,getElem_mem→ZpW
open Nat renaming reduceEqDiff→ZpI,reduceLT→ZpJ,reduceLeDiff→Zp1,zero_add→Zp2
set_option maxRecDepth 20000
set_option maxHeartbeats 8000000
namespace Go.PV.YtglpmlbbaedbiaaGreat
open Go Go.Proofs
theorem Zf4 {ox oy:Operand} {a b:Bool} {H:AH} {K:VE→AH→Prop}:vcBin Tryz.prog .neq 4 ox oy (.lit (.bool a)) (.lit (.bool b)) H K=K (.ret (boolV (!(a == b)))) H:=by
 have hu:(Tryz.prog).underlying 4=some .bool:=Tryz.underlying4;unfold vcBin;simp only [Yw];exact propext ⟨fun h=>h.2.2 _ rfl,fun h=>⟨hu,.inr (.inr hu),fun c hb=>by rw [show c=(a == b) from hb]; exact h⟩⟩
theorem nb_tt {ox oy:Operand} {H:AH} {K:VE→AH→Prop}:vcBin Tryz.prog .neq 4 ox oy (.lit (.bool true)) (.lit (.bool true)) H K=K (.ret (boolV false)) H:=Zf4
theorem nb_tf {ox oy:Operand} {H:AH} {K:VE→AH→Prop}:vcBin Tryz.prog .neq 4 ox oy (.lit (.bool true)) (.lit (.bool false)) H K=K (.ret (boolV true)) H:=Zf4
theorem ZpH {ox oy:Operand} {H:AH} {K:VE→AH→Prop}:vcBin Tryz.prog .neq 4 ox oy (.lit (.bool false)) (.lit (.bool true)) H K=K (.ret (boolV true)) H:=Zf4
theorem Zh1 {ox oy:Operand} {H:AH} {K:VE→AH→Prop}:vcBin Tryz.prog .neq 4 ox oy (.lit (.bool false)) (.lit (.bool false)) H K=K (.ret (boolV false)) H:=Zf4
theorem ZdL {p:Pr} {op:Int} {name:ByteArray} {ks:List Ex} {vars:List ByteArray} {t:Nat→VV} {H0 B:AH} {r3 r4:Nat} {R:Int} (hN:ks.length≤1099511627776)
 (ih:∀ i (h:i<ks.length),PureF Tryz.prog 55 [prV p,exV ks[i],strsV vars] (iV (ks[i].sdF p vars))) (hR:R=sdsF p ks vars) (h2:t 2=strsV vars) (h3:t 3=ptrV r3 0) (h4:t 4=ptrV r4 0) (h7:t 7=iV 0)
 (k3:B r3=some (.cells 25 [cosV p.cons,fusV p.funs] 0)) (k4:B r4=some (.cells 28 [iV op,sV name,encS exE ks] 0)) (hs:SubH H0 B) :
 ACx ⟨Tryz.prog,137,none⟩ (.loop b55_1) (Xh 1 (thenA (ACx ⟨Tryz.prog,137,none⟩ c55_1 (sdQ H0 R)) (sdQ H0 R))) ⟨t,[]⟩ B:=by
 refine ZP (fun _ _ _ h=>h) (fun A H'=>H'=B∧A.d=[]∧A.t 2=strsV vars∧A.t 3=ptrV r3 0∧A.t 4=ptrV r4 0∧∃ i:Nat,i≤ks.length∧A.t 7=iV i∧R=sdsF p (ks.drop i) vars)
  (fun A _=>match A.t 7 with | .lit (.int _ i)=>((ks.length:Int)-i).toNat | _=>0) ?_ ?_
 ·exact ⟨rfl,rfl,h2,h3,h4,0,by omega,h7,hR⟩
 ·clear hR h2 h3 h4 h7;rintro ⟨t,d⟩ H' ⟨rfl,rfl,h2,h3,h4,i,hi,h7,hR⟩;dsimp only at h2 h3 h4 h7;delta b55_1 Za Zd Zb Ze Zn Zr Zk Zo Zc Zm;by_cases hlt:i<ks.length
  ·have hil:(i:Int)<(ks.length:Int):=by omega
   have hdi:=XI hlt;rw [ZjD hlt] at hR;replace hR:=ZpM hR;have ihi:=ih i hlt;clear ih
   (repeat' (first | (simp only [↓Zz,ZA,ptrV,intV,ZpI,ZpJ,reduceCtorEq,ZpL,ZR,Ye,Xn,Yd,ZU,en_55, *]) | (refine Yh ?_ ?_<;>intro) | (refine ZG ?_) | (refine ZJ mixed (fun _ _ _ _ e h=>⟨e.trans h.1,h.2⟩) _ (ZpN _) ?_) | (refine ZpQ (ihi) ?_) | (with_reducible refine And.intro ?_ ?_)))
   all_goals try rw [ZK (n:=(i:Int)+1) (by omega) (by omega)]
   all_goals first
    | omega
    | exact hs
    | (have hne:(!decide (Ex.sdF p ks[i] vars=0))=true:=by assumption
       rw [hR.out,if_neg (by simpa using hne)])
    | (have hne:(!decide (Ex.sdF p ks[i] vars=0))=false:=by assumption
       exact ⟨i+1,by omega,rfl,by rw [hR.out,if_pos (by simpa using hne)]⟩)
  ·have hil:¬ (i:Int)<(ks.length:Int):=by omega
   rw [Zp9 (by omega)] at hR;have hR:R=0:=hR;subst hR
   (repeat' (first | (simp only [↓Zz,ZA,ptrV,intV,ZpI,ZpJ,reduceCtorEq,ZpL,ZR,Ye,ZU, *]) | (refine ZV rfl (fun _ _ _ h=>h) ?_)))
   delta c55_1 Zf
   (repeat' (first | (simp only [↓Zz,ZA,ZpI,ZpJ, *]) | (refine ZG ?_)))
   all_goals try exact hs
theorem rsd_node {p:Pr} {op nk ac af:Int} {name:ByteArray} {kids:List Ex} {hb:Bool} {vars:List ByteArray} {R:Int} (hN:kids.length≤1099511627776) (hvl:vars.length≤1099511627776) (hnk:(kids.length:Int)=nk)
 (ih:∀ (vars':List ByteArray),vars'.length≤vars.length+1→∀ i (h:i<kids.length),PureF Tryz.prog 55 [prV p,exV kids[i],strsV vars'] (iV (kids[i].sdF p vars')))
 (hc:PureF Tryz.prog 91 [.agg [cosV p.cons,fusV p.funs],sV name] (iV ac)) (hf:PureF Tryz.prog 56 [.agg [cosV p.cons,fusV p.funs],sV name] (iV af))
 (hat:ac = -1∨∃ j:Nat,∃ h:j<p.cons.length,ac=j) (hhas:PureF Tryz.prog 92 [strsV vars,sV name] (boolV hb))
 (o:Int) (ho:o=if formB op nk (!decide (name={ data:=#[] }))=false then 2 else if op=2∧af<0 then 9 else if op=3∧ac<0 then 9 else if op=3∧¬ nk=(match p.cons[ac.toNat]? with | some c=>c.arity | none=>0) then 5 else if op=1∧hb=false then 422 else 0)
 (hR:R=if o=0 then sdsF p kids (if op=5 then vars++[name] else vars) else o):PureF Tryz.prog 55 [prV p,.agg [iV op,sV name,encS exE kids],strsV vars] (iV R):=by
 refine Zp4 fun H=>?_
 refine ZE fd55 (by simp) ?_;delta c55 Zj Zf Zd Zb Zm Za Zp Zr Zq Zc Zn Zl;unfold formB at ho;by_cases h1:op=1
 ·subst h1;by_cases hk:0<nk
  ·have hR':=ZpM (show (2:Int)=R by rw [hR,ho]; simp [hk]);clear hR ho ih
   (repeat' (first | (simp only [↓Zz,ZA,ptrV,intV,ZpI,ZpJ,reduceCtorEq,ZN,ZD,ZpL,undef,Zqe,ZR,ZO,Ye,ZQ,ZU, *]) | (refine ZG ?_) | (refine ZB fun zr zh=>?_; have zg:=zh; (try simp only [ZpO] at zg)) | (exact ZpN _) | (refine ZpS ?_ ?_) | (with_reducible refine And.intro ?_ ?_)))
   all_goals first
    | rw [hR'.out]
    | (rename_i r3 n3 n3'; exact (ZpR n3).of_set zg.2)
  ·by_cases hn:name={ data:=#[] }
   ·have hR':=ZpM (show (2:Int)=R by rw [hR,ho]; simp [hn]);clear hR ho ih
    (repeat' (first | (simp only [↓Zz,ZA,↓Xw,ptrV,intV,boolV,ZpI,ZpJ,reduceCtorEq,ZN,ZD,ZpL,undef,Zp5,Zqe,ZpH,ZR,ZO,ZZ,Ye,ZQ,ZW,ZU, *]) | (refine ZG ?_) | (refine ZB fun zr zh=>?_; have zg:=zh; (try simp only [ZpO] at zg)) | (exact ZpN _) | (refine ZpS ?_ ?_) | (with_reducible refine And.intro ?_ ?_)))
    all_goals first
     | rw [hR'.out]
     | (rename_i r3 n3 n3'; exact (ZpR n3).of_set zg.2)
   ·cases hb with
    | false =>
      have hR':=ZpM (show (422:Int)=R by rw [hR,ho]; simp [hn,hk]);clear hR ho ih
      (repeat' (first | (simp only [↓Zz,ZA,↓Xw,ptrV,intV,boolV,ZpI,ZpJ,reduceCtorEq,ZN,ZD,ZpL,undef,Zp5,Zqe,Zh1,ZR,ZO,ZZ,Ye,ZQ,ZW,ZU,Zcc,Zhx,ZkO, *]) | (refine ZG ?_) | (refine ZJ mixed (fun _ _ _ _ e h=>⟨e.trans h.1,h.2⟩) _ (ZpN _) ?_) | (refine ZB fun zr zh=>?_; have zg:=zh; (try simp only [ZpO] at zg)) | (exact ZpN _) | (refine ZpS ?_ ?_) | (refine ZpQ (hhas) ?_) | (with_reducible refine And.intro ?_ ?_)))
      all_goals first
       | rw [hR'.out]
       | (rename_i r3 n3 n3'; exact (ZpR n3).of_set zg.2)
    | true =>
      have hR':=ZpM (show R=sdsF p kids vars by rw [hR,ho]; simp [hn,hk]);clear hR ho
      (repeat' (first | (simp only [↓Zz,ZA,↓Xw,ptrV,intV,boolV,ZpI,ZpJ,reduceCtorEq,ZN,ZD,ZpL,undef,Zp5,Zqe,Zh1,ZR,ZO,ZZ,Ye,ZQ,ZW,ZU,Zcc,Zhx,ZkO, *]) | (refine ZJ mixed (fun _ _ _ _ e h=>⟨e.trans h.1,h.2⟩) _ (ZpN _) ?_) | (refine ZB fun zr zh=>?_; have zg:=zh; (try simp only [ZpO] at zg)) | (exact ZpN _) | (refine ZpQ (hhas) ?_) | (with_reducible refine And.intro ?_ ?_)))
      rename_i r3 n3 n3';refine ZdL (op:=1) (name:=name) (ks:=kids) (vars:=vars) (r3:=r3) (r4:=zr) hN (fun i h=>ih vars (by omega) i h) hR'.out (by simp only [ZC,ZpI,if_false, *]<;>rfl) (by simp only [ZC,ZpI,if_true,if_false, *]<;>rfl) (by simp only [ZC,ZpI,if_true,if_false, *]<;>rfl) (by simp only [ZC,ZpI,if_true,if_false, *]<;>rfl) (by simp only [ZpU, *,if_true,if_false]<;>rfl) (ZpP _ _ _) ((ZpR n3).of_set zg.2)
 ·by_cases h2:op=2
  ·subst h2;by_cases hk:0<nk
   ·have hR':=ZpM (show (2:Int)=R by rw [hR,ho]; simp [hk]);clear hR ho ih
    (repeat' (first | (simp only [↓Zz,ZA,ptrV,intV,ZpI,ZpJ,reduceCtorEq,ZD,ZpL,undef,Zqe,ZR,ZO,Ye,ZQ,ZU, *]) | (refine ZG ?_) | (refine ZB fun zr zh=>?_; have zg:=zh; (try simp only [ZpO] at zg)) | (exact ZpN _) | (refine ZpS ?_ ?_) | (with_reducible refine And.intro ?_ ?_)))
    all_goals first
     | rw [hR'.out]
     | (rename_i r3 n3 n3'; exact (ZpR n3).of_set zg.2)
   ·by_cases hn:name={ data:=#[] }
    ·have hR':=ZpM (show (2:Int)=R by rw [hR,ho]; simp [hn]);clear hR ho ih
     (repeat' (first | (simp only [↓Zz,ZA,↓Xw,ptrV,intV,boolV,ZpI,ZpJ,reduceCtorEq,ZN,ZD,ZpL,undef,Zp5,Zqe,ZpH,ZR,ZO,ZZ,Ye,ZQ,ZW,ZU, *]) | (refine ZG ?_) | (refine ZB fun zr zh=>?_; have zg:=zh; (try simp only [ZpO] at zg)) | (exact ZpN _) | (refine ZpS ?_ ?_) | (with_reducible refine And.intro ?_ ?_)))
     all_goals first
      | rw [hR'.out]
      | (rename_i r3 n3 n3'; exact (ZpR n3).of_set zg.2)
    ·by_cases haf:af<0
     ·have hR':=ZpM (show (9:Int)=R by rw [hR,ho]; simp [hn,hk,haf]);clear hR ho ih
      (repeat' (first | (simp only [↓Zz,ZA,↓Xw,ptrV,intV,boolV,ZpI,ZpJ,reduceCtorEq,ZN,ZD,ZpL,undef,Zp5,Zqe,Zh1,ZR,ZO,ZZ,Ye,Xn,ZQ,ZW,ZU,Zcc, *]) | (refine ZG ?_) | (refine ZB fun zr zh=>?_; have zg:=zh; (try simp only [ZpO] at zg)) | (exact ZpN _) | (refine ZpS ?_ ?_) | (refine ZpQ (hf) ?_) | (with_reducible refine And.intro ?_ ?_)))
      all_goals first
       | rw [hR'.out]
       | (rename_i r3 n3 n3'; exact (ZpR n3).of_set zg.2)
     ·have hR':=ZpM (show R=sdsF p kids vars by rw [hR,ho]; simp [hn,hk,haf]);clear hR ho
      (repeat' (first | (simp only [↓Zz,ZA,↓Xw,ptrV,intV,boolV,ZpI,ZpJ,reduceCtorEq,ZN,ZD,ZpL,undef,Zp5,Zqe,Zh1,ZR,ZO,ZZ,Ye,Xn,ZQ,ZW,ZU,Zcc,Zhx,ZkO, *]) | (refine ZJ mixed (fun _ _ _ _ e h=>⟨e.trans h.1,h.2⟩) _ (ZpN _) ?_) | (refine ZB fun zr zh=>?_; have zg:=zh; (try simp only [ZpO] at zg)) | (exact ZpN _) | (refine ZpQ (hf) ?_) | (with_reducible refine And.intro ?_ ?_)))
      rename_i r3 n3 n3';refine ZdL (op:=2) (name:=name) (ks:=kids) (vars:=vars) (r3:=r3) (r4:=zr) hN (fun i h=>ih vars (by omega) i h) hR'.out (by simp only [ZC,ZpI,if_false, *]<;>rfl) (by simp only [ZC,ZpI,if_true,if_false, *]<;>rfl) (by simp only [ZC,ZpI,if_true,if_false, *]<;>rfl) (by simp only [ZC,ZpI,if_true,if_false, *]<;>rfl) (by simp only [ZpU, *,if_true,if_false]<;>rfl) (ZpP _ _ _) ((ZpR n3).of_set zg.2)
  ·by_cases h5:op=5
   ·subst h5;by_cases hk:nk=1
    ·by_cases hn:name={ data:=#[] }
     ·have hR':=ZpM (show (2:Int)=R by rw [hR,ho]; simp [hn]);clear hR ho ih
      (repeat' (first | (simp only [↓Zz,ZA,↓Xw,ptrV,intV,boolV,ZpI,ZpJ,reduceCtorEq,ZN,ZD,ZpL,undef,Zp5,Zqe,ZpH,ZR,ZO,ZZ,Ye,ZQ,ZW,ZU, *]) | (refine ZG ?_) | (refine ZB fun zr zh=>?_; have zg:=zh; (try simp only [ZpO] at zg)) | (exact ZpN _) | (refine ZpS ?_ ?_) | (with_reducible refine And.intro ?_ ?_)))
      all_goals first
       | rw [hR'.out]
       | (rename_i r3 n3 n3'; exact (ZpR n3).of_set zg.2)
     ·have hR':=ZpM (show R=sdsF p kids (vars++[name]) by rw [hR,ho]; simp [hn,hk]);clear hR ho
      (repeat' (first | (simp only [↓Zz,ZA,↓Xw,ptrV,intV,boolV,ZpI,ZpJ,Zp1,reduceCtorEq,ZN,ZD,fillV,setAt,ZpL,undef,Zp5,Zqe,ZH,ZH,Zh1,ZR,ZO,ZZ,Ye,ZQ,ZW,ZU,Xy,Jd,Zcc,Zhx,ZkO, *]) | (refine ZJ mixed (fun _ _ _ _ e h=>⟨e.trans h.1,h.2⟩) _ (ZpN _) ?_) | (refine ZB fun zr zh=>?_; have zg:=zh; (try simp only [ZpO] at zg)) | (exact ZpN _) | (with_reducible refine And.intro ?_ ?_)))
      rename_i r3 n3 n3';have hsr:∀ b1 b2,SubH H ((H.set r3 b1).set zr b2):=fun _ _=>(ZpR n3).of_set zg.2
      refine (OutE.start (ZpN _)).append Xy Jd rfl (by omega) (Zex (enc:=strE) (k:=1) (fun _=>rfl) _ false vars) (ZdE Zn8 vars) (by omega) (by omega) (fun h0=>by rw [ZqD h0]; rfl) (fun v' H' ho=>?_);have hos:=ho.sub;have k4:=ho.sub _ _ (ZpP _ _ _);rw [Zp2,List.nil_append] at ho;replace ho:=ZpM ho
      (repeat' (first | (simp only [↓Zz,ZA,ZpI,ZpJ, *])))
      refine ho.out.append1 (xs:=[sV name]) Xy Jd rfl (by omega) rfl rfl (by omega) (by omega) (fun v2 H2 ho2=>?_);have e1:encC strE vars++[sV name]=encC strE (vars++[name]):=by rw [Yl]; rfl
      have e2:vars.length+1=(vars++[name]).length:=by simp
      rw [e1,e2] at ho2;have hc2:=ho2.cells.1;have k42:=ho2.sub _ _ (ZpP _ _ _);replace ho2:=ZpM ho2;clear e1 e2
      (repeat' (first | (simp only [↓Zz,ZA,ZpI,ZpJ, *])))
      refine WN (OutE.ghost (i:=2) (e:=9) (k:=1) (n:=(vars++[name]).length) (cs:=encC strE (vars++[name])) (by simp only [ZC,ZpI,if_true,if_false]; exact ho2.out) _) ?_;exact ZdL (op:=5) (name:=name) (ks:=kids) (vars:=vars++[name]) (r3:=r3) (r4:=zr) hN (fun i h=>ih _ (by simp) i h) hR'.out (by simp only [ZC,ZpI,if_true,if_false, *]<;>rfl) (by simp only [ZC,ZpI,if_true,if_false, *]<;>rfl) (by simp only [ZC,ZpI,if_true,if_false, *]<;>rfl) (by simp only [ZC,ZpI,if_true,if_false, *]<;>rfl) (by rw [ZpV _ _ zg.1.2]; exact ZpP _ _ _) (ZpP _ _ _) (hsr _ _)
    ·have hR':=ZpM (show (2:Int)=R by rw [hR,ho]; simp [hk]);clear hR ho ih
     (repeat' (first | (simp only [↓Zz,ZA,ptrV,intV,ZpI,ZpJ,reduceCtorEq,ZN,ZD,ZpL,undef,Zqe,ZR,ZO,Ye,ZQ,ZU, *]) | (refine ZG ?_) | (refine ZB fun zr zh=>?_; have zg:=zh; (try simp only [ZpO] at zg)) | (exact ZpN _) | (refine ZpS ?_ ?_) | (with_reducible refine And.intro ?_ ?_)))
     all_goals first
      | rw [hR'.out]
      | (rename_i r3 n3 n3'; exact (ZpR n3).of_set zg.2)
   ·by_cases h4:op=4
    ·subst h4;by_cases hk:nk<2
     ·have hR':=ZpM (show (2:Int)=R by rw [hR,ho]; simp [hk]);clear hR ho ih
      (repeat' (first | (simp only [↓Zz,ZA,ptrV,intV,ZpI,ZpJ,reduceCtorEq,ZN,ZD,ZpL,undef,Zqe,ZR,ZO,Ye,ZQ,ZU, *]) | (refine ZG ?_) | (refine ZB fun zr zh=>?_; have zg:=zh; (try simp only [ZpO] at zg)) | (exact ZpN _) | (refine ZpS ?_ ?_) | (with_reducible refine And.intro ?_ ?_)))
      all_goals first
       | rw [hR'.out]
       | (rename_i r3 n3 n3'; exact (ZpR n3).of_set zg.2)
     ·by_cases hn:name={ data:=#[] }
      ·have hR':=ZpM (show R=sdsF p kids vars by rw [hR,ho]; simp [hn,hk]);clear hR ho
       (repeat' (first | (simp only [↓Zz,ZA,↓Xw,ptrV,intV,boolV,ZpI,ZpJ,reduceCtorEq,ZN,ZD,ZpL,undef,Zp5,Zqe,nb_tt,ZR,ZO,ZZ,Ye,ZQ,ZW,ZU,Zcc,Zhx,ZkO, *]) | (refine ZJ mixed (fun _ _ _ _ e h=>⟨e.trans h.1,h.2⟩) _ (ZpN _) ?_) | (refine ZB fun zr zh=>?_; have zg:=zh; (try simp only [ZpO] at zg)) | (exact ZpN _) | (with_reducible refine And.intro ?_ ?_)))
       rename_i r3 n3 n3';refine ZdL (op:=4) (name:={ data:=#[] }) (ks:=kids) (vars:=vars) (r3:=r3) (r4:=zr) hN (fun i h=>ih vars (by omega) i h) hR'.out (by simp only [ZC,ZpI,if_false, *]<;>rfl) (by simp only [ZC,ZpI,if_true,if_false, *]<;>rfl) (by simp only [ZC,ZpI,if_true,if_false, *]<;>rfl) (by simp only [ZC,ZpI,if_true,if_false, *]<;>rfl) (by simp only [ZpU, *,if_true,if_false]<;>rfl) (ZpP _ _ _) ((ZpR n3).of_set zg.2)
      ·have hR':=ZpM (show (2:Int)=R by rw [hR,ho]; simp [hn]);clear hR ho ih
       (repeat' (first | (simp only [↓Zz,ZA,↓Xw,ptrV,intV,boolV,ZpI,ZpJ,reduceCtorEq,ZN,ZD,ZpL,undef,Zqe,nb_tf,ZR,ZO,ZZ,Ye,ZQ,ZW,ZU, *]) | (refine ZG ?_) | (refine ZB fun zr zh=>?_; have zg:=zh; (try simp only [ZpO] at zg)) | (exact ZpN _) | (refine ZpS ?_ ?_) | (with_reducible refine And.intro ?_ ?_)))
       all_goals first
        | rw [hR'.out]
        | (rename_i r3 n3 n3'; exact (ZpR n3).of_set zg.2)
    ·by_cases h3:op=3
     ·subst h3;by_cases hn:name={ data:=#[] }
      ·have hR':=ZpM (show (2:Int)=R by rw [hR,ho]; simp [hn]);clear hR ho ih
       (repeat' (first | (simp only [↓Zz,ZA,↓Xw,ptrV,boolV,ZpI,ZpJ,ZN,ZD,ZpL,undef,Zqe,ZpH,ZO,ZZ,ZQ,ZW, *]) | (refine ZG ?_) | (refine ZB fun zr zh=>?_; have zg:=zh; (try simp only [ZpO] at zg)) | (exact ZpN _) | (refine ZpS ?_ ?_) | (with_reducible refine And.intro ?_ ?_)))
       all_goals first
        | rw [hR'.out]
        | (rename_i r3 n3 n3'; exact (ZpR n3).of_set zg.2)
      ·rcases hat with rfl | ⟨j,hj,rfl⟩
       ·have hR':=ZpM (show (9:Int)=R by rw [hR,ho]; simp [hn]);clear hR ho ih
        (repeat' (first | (simp only [↓Zz,ZA,↓Xw,ptrV,boolV,ZpI,ZpJ,ZN,ZD,ZpL,undef,Zqe,ZqG,Zh1,ZO,ZZ,Xn,ZQ,ZW,Zcc,Zhx, *]) | (refine ZG ?_) | (refine ZB fun zr zh=>?_; have zg:=zh; (try simp only [ZpO] at zg)) | (exact ZpN _) | (refine ZpS ?_ ?_) | (refine ZpQ (hc) ?_) | (with_reducible refine And.intro ?_ ?_)))
        all_goals first
         | rw [hR'.out]
         | (rename_i r3 n3 n3'; exact (ZpR n3).of_set zg.2)
       ·have hcd:=Zaj hj;have hjl:(j:Int)<(p.cons.length:Int):=by omega
        have hj0:¬ (j:Int)<0:=by omega
        by_cases hka:nk=p.cons[j].arity
        ·have hR':=ZpM (show R=sdsF p kids vars by rw [hR,ho]; simp [hn,hj,hka,hj0]);clear hR ho
         (repeat' (first | (simp only [↓Zz,ZA,↓Xw,ptrV,intV,boolV,ZpI,ZpJ,reduceCtorEq,ZN,ZD,ZpL,undef,Zqe,Zh1,ZR,ZO,ZZ,WR,ZaL,Ye,Xn,ZQ,ZW,Za6,ZU,JJ,Zcc,Zhx,ZkO, *]) | (refine ZJ mixed (fun _ _ _ _ e h=>⟨e.trans h.1,h.2⟩) _ (ZpN _) ?_) | (refine ZB fun zr zh=>?_; have zg:=zh; (try simp only [ZpO] at zg)) | (exact ZpN _) | (refine ZpQ (hc) ?_) | (with_reducible refine And.intro ?_ ?_)))
         rename_i r3 n3 n3';refine ZdL (op:=3) (name:=name) (ks:=kids) (vars:=vars) (r3:=r3) (r4:=zr) hN (fun i h=>ih vars (by omega) i h) hR'.out (by simp only [ZC,ZpI,if_false, *]<;>rfl) (by simp only [ZC,ZpI,if_true,if_false, *]<;>rfl) (by simp only [ZC,ZpI,if_true,if_false, *]<;>rfl) (by simp only [ZC,ZpI,if_true,if_false, *]<;>rfl) (by simp only [ZpU, *,if_true,if_false]<;>rfl) (ZpP _ _ _) ((ZpR n3).of_set zg.2)
        ·have hR':=ZpM (show (5:Int)=R by rw [hR,ho]; simp [hn,hj,hka,hj0]);clear hR ho ih
         (repeat' (first | (simp only [↓Zz,ZA,↓Xw,ptrV,intV,boolV,ZpI,ZpJ,reduceCtorEq,ZN,ZD,ZpL,undef,Zqe,Zh1,ZR,ZO,ZZ,WR,ZaL,Ye,Xn,ZQ,ZW,Za6,ZU,JJ,Zcc,Zhx, *]) | (refine ZG ?_) | (refine ZJ mixed (fun _ _ _ _ e h=>⟨e.trans h.1,h.2⟩) _ (ZpN _) ?_) | (refine ZB fun zr zh=>?_; have zg:=zh; (try simp only [ZpO] at zg)) | (exact ZpN _) | (refine ZpS ?_ ?_) | (refine ZpQ (hc) ?_) | (with_reducible refine And.intro ?_ ?_)))
         all_goals first
          | rw [hR'.out]
          | (rename_i r3 n3 n3'; exact (ZpR n3).of_set zg.2)
     ·have hR':=ZpM (show (2:Int)=R by rw [hR,ho]; simp [h1,h2,h3,h4,h5]);clear hR ho ih;by_cases hlo:op<1
      ·(repeat' (first | (simp only [↓Zz,ZA,ptrV,ZpI,ZpJ,ZN,ZD,ZpL,undef,ZO,ZQ, *]) | (refine ZG ?_) | (refine ZB fun zr zh=>?_; have zg:=zh; (try simp only [ZpO] at zg)) | (exact ZpN _) | (refine ZpS ?_ ?_) | (with_reducible refine And.intro ?_ ?_)))
       all_goals first
        | rw [hR'.out]
        | (rename_i r3 n3 n3'; exact (ZpR n3).of_set zg.2)
      ·have hhi:5<op:=by omega
       (repeat' (first | (simp only [↓Zz,ZA,ptrV,ZpI,ZpJ,ZD,ZpL,undef,ZO,ZQ, *]) | (refine ZG ?_) | (refine ZB fun zr zh=>?_; have zg:=zh; (try simp only [ZpO] at zg)) | (exact ZpN _) | (refine ZpS ?_ ?_) | (with_reducible refine And.intro ?_ ?_)))
       all_goals first
        | rw [hR'.out]
        | (rename_i r3 n3 n3'; exact (ZpR n3).of_set zg.2)
theorem rsd_ok (p:Pr) (hpc:p.cons.length≤1099511627776) (hpf:p.funs.length≤1099511627776):∀ (n:Nat) (e:Ex) (vars:List ByteArray),e.sz<n→vars.length+e.sz≤1099511627776→PureF Tryz.prog 55 [prV p,exV e,strsV vars] (iV (e.sdF p vars)):=by
 intro n
 induction n with
 | zero=>intro e vars h0; omega
 | succ n ih =>
   intro e vars h0 hs;have z:=e.sz_eq;have hkl:=YN e.kids;refine rsd_node (nk:=e.kids.length) (ac:=atCo p.cons e.name) (af:=atFu p.funs e.name) (hb:=hasF vars e.name) (by omega) (by omega) rfl (fun vars' hl i h=>?_) (Zo3 p e.name hpc) (ZgA p e.name hpf) ?_ (rhas_ok vars e.name (by omega)) (sdOwn p e vars) rfl (e.sdF_eq p vars)
   ·have:=Ya (ZpW h)
    exact ih _ _ (by omega) (by omega)
   ·rcases WI (fun c:Co=>decide (c.name=e.name)) p.cons with ⟨h,_⟩ | ⟨j,h,hj,_⟩
    ·exact .inl h
    ·exact .inr ⟨j,h,hj⟩
theorem Zpb {p:Pr} {e:Ex} (hp:RPrOk p) (hs:e.sz≤1099511627776):PureF Tryz.prog 30 [prV p,exV e] (iV (JZ p e)):=by
 have hck:=ZmM hp;have hsz:=Zn5 e (by omega)
 have hsd:∀ (H:AH) (K:VE→AH→Prop),K (.ret (iV (e.sdF p []))) H→ZT Tryz.prog 55 [.agg [cosV p.cons,fusV p.funs],.agg [iV e.op,sV e.name,encS exE e.kids],.lit (.slice none 0 0)] H K:=fun H K hK =>
  Yy (ZpZ (Zp8 _ _) (ZpZ (Zp8 _ _) (ZpZ (GhV.nil _) (GhL.nil _)))) ((rsd_ok p hp.cons hp.funs (e.sz+1) e [] (by omega) (by simpa using hs)).use hK)
 refine Zp4 fun H=>?_
 refine ZE fd30 (by simp) ?_;delta c30 Zj Zf Zb Zo Zr Zc Za Zm Zh;obtain ⟨R,hR⟩:∃ R,R=JZ p e:=⟨_,rfl⟩
 rw [← hR];unfold JZ at hR;clear hp hs;by_cases hz:Jv p=0
 ·rw [hz] at hck;rw [if_pos hz] at hR;clear hz;by_cases h1:5000<e.sz
  ·have h1':(5000:Int)<(e.sz:Int):=by omega
   rw [if_pos h1] at hR;replace hR:=ZpM hR
   (repeat' (first | (simp only [↓Zz,ZA,ZI,ptrV,ZpI,ZpJ,ZD,ZpL,undef,Xn,Yd,Zpv,Zme, *]) | (refine ZG ?_) | (refine ZB fun zr zh=>?_; have zg:=zh; (try simp only [ZpO] at zg)) | (exact ZpN _) | (refine ZpS ?_ ?_) | (refine ZpQ (hck) ?_) | (refine ZpQ (hsz) ?_) | (with_reducible refine And.intro ?_ ?_)))
   all_goals first
    | rw [hR.out]
    | (rename_i r3 n3 n3'; exact (ZpR n3).of_set zg.2)
  ·have h1':¬ (5000:Int)<(e.sz:Int):=by omega
   rw [if_neg h1] at hR;by_cases h2:200<e.dp
   ·have h2':(200:Int)<(e.dp:Int):=by omega
    rw [if_pos h2] at hR;replace hR:=ZpM hR
    (repeat' (first | (simp only [↓Zz,ZA,ZI,ptrV,ZpI,ZpJ,ZD,ZpL,undef,Xn,Yd,Zpv,Zme, *]) | (refine ZG ?_) | (refine ZB fun zr zh=>?_; have zg:=zh; (try simp only [ZpO] at zg)) | (exact ZpN _) | (refine ZpS ?_ ?_) | (refine ZpQ (hck) ?_) | (refine ZpQ (hsz) ?_) | (with_reducible refine And.intro ?_ ?_)))
    all_goals first
     | rw [hR.out]
     | (rename_i r3 n3 n3'; exact (ZpR n3).of_set zg.2)
   ·have h2':¬ (200:Int)<(e.dp:Int):=by omega
    rw [if_neg h2] at hR;replace hR:=ZpM hR
    (repeat' (first | (simp only [↓Zz,ZA,ZI,ptrV,ZpI,ZpJ,ZD,ZpL,undef,Xn,Yd,Zpv,Zme,en_55, *]) | (refine ZG ?_) | (refine ZB fun zr zh=>?_; have zg:=zh; (try simp only [ZpO] at zg)) | (exact ZpN _) | (refine ZpS ?_ ?_) | (refine ZpQ (hck) ?_) | (refine ZpQ (hsz) ?_) | (refine hsd _ _ ?_) | (with_reducible refine And.intro ?_ ?_)))
    all_goals first
     | rw [hR.out]
     | (rename_i r3 n3 n3'; exact (ZpR n3).of_set zg.2)
 ·rw [if_neg hz] at hR;replace hR:=ZpM hR
  (repeat' (first | (simp only [↓Zz,ZA,ptrV,ZpI,ZpJ,ZD,ZpL,undef,Xn,Zpv, *]) | (refine ZG ?_) | (refine ZB fun zr zh=>?_; have zg:=zh; (try simp only [ZpO] at zg)) | (exact ZpN _) | (refine ZpS ?_ ?_) | (refine ZpQ (hck) ?_) | (with_reducible refine And.intro ?_ ?_)))
  all_goals first
   | rw [hR.out]
   | (rename_i r3 n3 n3'; exact (ZpR n3).of_set zg.2)
end Go.PV.YtglpmlbbaedbiaaGreat
end
section
open Bool renaming and_self→Zqo
open Go.PV.AH renaming ne_of→ZpK,get→ZpU,set_set→Zqj,set_none→ZpO
open Go.PV.SubH renaming set→Zqk,of_set→ZpS,new→ZpR
open List renaming map_cons→Zp3,map_nil→Zqa,length_cons→Zqb,length_nil→Zqh,getD_cons_zero→ZqM,getD_cons_succ→Zqw,getD_nil→Zqx,all_cons→Zqn,all_nil→Zqv,drop→ZpL,getElem?_cons_zero→ZqE,getElem?_cons_succ→ZqF,set_cons_zero→Zqs,set_cons_succ→Zqy
open Nat renaming reduceEqDiff→ZpI,reduceLT→ZpJ,reduceAdd→ZpT,succ_ne_self→Zp7,zero_add→Zp2,add_zero→ZqB,le_refl→ZpY
set_option maxRecDepth 20000
set_option maxHeartbeats 4000000
namespace Go.PV.YtglpmlbbaedbiaaGreat
open Go Go.Proofs
theorem Zox:∃ e,Program.underlying Tryz.prog 20=some (.interface e):=Zoq (by kernel_rfl)
section
variable {H:AH} {K:VE→AH→Prop} {ox:Operand} {u:TypeId} {y:Value}
theorem nil_neq:vcBin Tryz.prog .neq 20 ox (.const .nilIface) (.lit .nilIface) (.lit .nilIface) H K=K (.ret (boolV false)) H:=by
 unfold vcBin;simp only [Yw];exact propext ⟨fun h=>h.2.2 _ rfl,fun h=>⟨Zox,.inr (.inl rfl),fun b hb=>by rw [show b=true from hb]; exact h⟩⟩
theorem if_neq:vcBin Tryz.prog .neq 20 ox (.const .nilIface) (.lit (.iface u y)) (.lit .nilIface) H K=K (.ret (boolV true)) H:=by
 unfold vcBin;simp only [Yw];exact propext ⟨fun h=>h.2.2 _ rfl,fun h=>⟨Zox,.inr (.inl rfl),fun b hb=>by rw [show b=false from hb]; exact h⟩⟩
end
theorem fdR:FnD Tryz.prog 25 19 [] (.seq (.reg (⟨some 5,(.call { callee:=(.builtin .recover),args:=#[],argTypes:=#[] }),none⟩::[⟨some 2,(.assign (.tmp 5)),none⟩])) (match c25 with | .seq _ b=>b | c=>c)):=fd25
theorem mv_ok:∀ o∈[(⟨some 2,(.assign (.tmp 5)),none⟩:GOp)],isMv o=true∧dOk 19 o.dst:=fun o ho=>by
 rcases List.mem_singleton.1 ho with rfl
 exact ⟨rfl,by simp [dOk]⟩
theorem cl_z1 (v:Value):VV.cells (.lit (.agg #[v]))=[.lit v]:=rfl
theorem Zh2 (i:Nat):AH.nil i=none:=rfl
theorem Zca (H:AH):SubH AH.nil H:=fun _ _ h=>by cases h
def recd (l:List PanicEntry):FrameMode:=.panicking (l.map fun e=>{ e with recovered:=true })
theorem rec_nil {H:AH} {xs:List VV} {K:VE→FrameMode→AH→Prop} (hN:xs.length≤19) (h:∀ u,K (.ret u) .returning H):Zbq Tryz.prog 25 xs .returning H K:=by
 refine ZaR fdR mv_ok hN (by decide) (Zen (fun _ _ _ h=>h) ?_);delta c25 Zq Zc Za Zr Zh Zi Zg Zd Zb;unfold mvs mvs mvV
 (repeat' (first | (simp only [↓Zz,ZA,boolV,ZpI,ZpJ,ZD,undef,nil_neq,Zc3, *])))
 exact ⟨rfl,_,H,_,rfl,.refl _ _,h _⟩
abbrev zR:List VV:=[iV 0,sV ⟨#[]⟩,.lit (.slice none 0 0),iV 0]
theorem rec_stop {H:AH} {r6 r7:Nat} {y0 y1 y2 y3:VV} {x7 c:Int} {K:VE→FrameMode→AH→Prop}
 (b6:H r6=some (.cells 37 [y0,y1,y2,y3] 0)) (b7:H r7=some (.cells 38 [iV x7] 0)) (d67:¬ r6=r7∧¬ r7=r6)
 (h:∀ u H',SubH ((H.set r6 (.cells 37 zR 0)).set r7 (.cells 38 [iV c] 0)) H'→K (.ret u) (recd (stopE c)) H'):Zbq Tryz.prog 25 [ptrV r6 0,ptrV r7 0] (.panicking (stopE c)) H K:=by
 refine ZaR fdR mv_ok (by simp) (by decide) (Zen (fun _ _ _ h=>h) ?_);have n6:∀ r,H r=none→¬ r6=r:=fun r hr=>(ZpK b6 hr).1
 have n6':∀ r,H r=none→¬ r=r6:=fun r hr=>(ZpK b6 hr).2
 have n7:∀ r,H r=none→¬ r7=r:=fun r hr=>(ZpK b7 hr).1
 have n7':∀ r,H r=none→¬ r=r7:=fun r hr=>(ZpK b7 hr).2
 delta c25 Zq Zc Za Zr Zh Zi Zg Zd Zb;unfold mvs mvs mvV
 (repeat' (first | (refine ZJ mixed (fun _ _ _ _ e h=>⟨e.trans h.1,h.2⟩) (AH.nil.set _ _) (Zqk (Zca _) _ _) ?_) | (refine Zqk (Zca _) _ _) | (simp only [↓Wq,↓Wg,↓XM,↓XN,↓Xz,↓WV,↓Wb,↓Xe,↓Yf,↓Yi,↓Zhz,↓Yu,↓Yr,↓XJ,↓Ys,↓XK,↓Yt,↓YS,↓ZC,↓Xb,↓YH,↓YA,↓YU,↓Wr,↓s_un,↓Wv,↓Jm,↓Yb,↓ZcE,↓Wh,↓ZnU,↓JS,ZI,ptrV,boolV,Zp3,Zqa,Zqb,Zqh,ZqM,Zqw,Zqx,ite_true,ite_false,ZpI,ZpJ,ZpT,ne_eq,not_false_eq_true,true_and,Zp7,Bool.not_true,Bool.not_false,reduceCtorEq,ZD,↓YV,↓YK,↓YL,ZpU,Zqj,ZM,fillV,setAt,Zqn,Zqv,Zqo,eq_self,Zp2,ZqB,ZpL,ZqE,ZqF,Wi,Zap,XS,We,ZkW,YT,Zqs,Zqy,↓Ww,XW,ZpY,XG,WY,XH,Xr,WO,WP,WQ,↓Ws,↓WC,undef,if_neq,Zc3,stopE,XV,ZbJ,zeroV_89,okV,cl_z1,Zh2,ZM,flT_89_0,YO,szT_89,Zco,ZiS,JW,zeroT_89, *]) | (refine ZB fun zr zh=>?_; have zg:=zh; (try simp only [ZpO] at zg)) | (refine ZpS ?_ ?_) | (with_reducible refine And.intro ?_ ?_)))
 refine ⟨rfl,_,_,_,rfl,.refl _ _,h _ _ ?_⟩;exact Zqk (Zqk (ZpR zh) _ _) _ _
end Go.PV.YtglpmlbbaedbiaaGreat
end
section
open Bool renaming false_eq_true→ZqP
open Go.PV.AH renaming set_none→ZpO,get→ZpU,ne_of→ZpK,del_ne→Zqf,set_ne→ZpV
open Go.PV.GhL renaming cons→ZpZ
open Go.PV.GhV renaming forget→Zqq,refl→Zp8
open Go.PV.Hold renaming mk→ZpM
open Go.PV.PureF renaming use→ZpQ
open Go.PV.SubH renaming refl→ZpN,of_set→ZpS,set→Zqk
open Int renaming reduceEq→Zp5,toNat_natCast→ZqN,reduceLE→Zqi
open List renaming drop→ZpL,getElem_mem→ZpW,map_cons→Zp3,map_nil→Zqa,length_cons→Zqb,length_nil→Zqh,getD_cons_zero→ZqM,getD_cons_succ→Zqw,getD_nil→Zqx,getElem?_cons_zero→ZqE,getElem?_cons_succ→ZqF,set_cons_zero→Zqs,set_cons_succ→Zqy,append_nil→ZqJ
open Nat renaming reduceEqDiff→ZpI,reduceLT→ZpJ,reduceAdd→ZpT,reduceLeDiff→Zp1,succ_ne_self→Zp7,zero_add→Zp2,add_zero→ZqB,le_refl→ZpY
open Option renaming map_none→Zqz,map_some→Zp6
set_option maxRecDepth 20000
set_option maxHeartbeats 4000000
namespace Go.PV.YtglpmlbbaedbiaaGreat
open Go Go.Proofs
theorem mapFun:Zew Tryz.prog 82 (.pointer none):=Zd9
theorem ml_use {fs:List Fu} {m1 m2 r:Nat} {fu d:Int} {H:AH} {R:EvL} {f:FuncId} {xs:List VV} {K:VE→AH→Prop} (h:ZT Tryz.prog f xs H (McL fs m1 m2 r fu d H R)) (h1:∀ c l,R=.ok (c,l)→K (.ret (vsV fs l)) (H.set r (mB m1 m2 fu c d))) (h2:∀ k c d',R=.error k→K (.pan (stopE k)) (H.set r (mB m1 m2 fu c d'))):ZT Tryz.prog f xs H K:=h.mono fun e H' hq=>by
 rcases hq with ⟨c,v,hR,rfl,rfl⟩ | ⟨k,c,d',hR,rfl,rfl⟩
 ·exact h1 c v hR
 ·exact h2 k c d' hR
theorem ev_ok {p:Pr} (hp:PgR p) {m1 m2 r:Nat} {fu:Int} (hfu:fu≤100000):∀ g:Nat,EvHyp p m1 m2 r fu g (evG p fu g):=by
 intro g
 induction g with
 | zero =>
   intro c d e ns vs H hg hms hd hd2 hm
   have:=e.sz_eq
   have:=hg.cf
   omega
 | succ g ih =>
   intro c d e ns vs H hg hms hd hd2 hm;have hpr:=ZdJ hp (fu:=fu) g;have hz:=e.sz_eq;have hz5:=hg.sz;have hcf:=hg.cf;have hc0:=hg.c0;have hkn:=(Ex.nmOk_iff.1 hg.nm).2;have hzn:e.name.size≤maxLen:=by have:=(Ex.nmOk_iff.1 hg.nm).1; unfold maxLen; omega
   have hkl:=YN e.kids;have hm1:=hm.1;obtain ⟨x1,x2⟩:=Zoi hm.2;refine JH ?_;refine ZE fd26 (by simp) ?_;delta c26 Zj Zq Zr Zc Zd Zb Zm Zo Za;obtain ⟨X,hX⟩:∃ X,X=evG p fu (g+1) c d e ns vs:=⟨_,rfl⟩
   rw [← hX];rw [Ziv] at hX;obtain ⟨e1,e2⟩:=JU p.funs vs ns;have hself:=Zaw hm1;unfold mB mC at hm1;rcases ZbO hg.sd with ⟨ho,hn⟩ | ⟨ho,k,hk,hks⟩ | ⟨ho,ha⟩ | ⟨ho,hk⟩ | ⟨ho,hk2,hk⟩
   ·obtain ⟨w,hw,hwo⟩:=Zf1 hg.env.1 hg.env.2 hn;rw [if_pos ho,hw] at hX
    have hf:PureF Tryz.prog 48 [envC p.funs vs ns,sV e.name] (w.vv p.funs):=by
     have:=Zoh p.funs (eoOf ns vs) e.name
     rw [← Zgg,Zns,hw] at this;exact this
    obtain ⟨o1,o2⟩:=WU p.funs w;rw [hX];replace hself:=ZpM hself;clear ih hpr hX hw x1 x2
    (repeat' (first | (simp only [↓Zz,ZA,ptrV,ZpI,ZpJ,ZD,ZpL,undef,Yg,Ym,ZQ,Zer,ZW,Zpt, *]) | (refine ZG ?_) | (refine ZB fun zr zh=>?_; have zg:=zh; (try simp only [ZpO] at zg)) | (refine ZpQ (hf) ?_)))
    exact ⟨_,H,Zqq (by repeat (first | assumption | exact ZpN _ | refine ZpS ?_ (by simp only [*]))) _,.inl ⟨c,w,rfl,rfl,hself.out.symm⟩⟩
   ·rw [if_neg (by omega),if_pos ho,hk] at hX;rw [hX];replace hself:=ZpM hself;clear ih hpr hX x1 x2
    (repeat' (first | (simp only [↓Zz,ZA,Xc,ptrV,ZpI,ZpJ,ZpT,Zp1,ZD,ZM,fillV,setAt,ZpL,undef,Zp5,ZM,Xc,ni_136,Yg,ZQ,Zer,YZ,stT_136, *]) | (refine ZG ?_) | (refine ZB fun zr zh=>?_; have zg:=zh; (try simp only [ZpO] at zg))))
    exact ⟨_,H,Zqq (by repeat (first | assumption | exact ZpN _ | refine ZpS ?_ (by simp only [*]))) _,.inl ⟨c,_,rfl,by rw [Zhc]; rfl,hself.out.symm⟩⟩
   ·rw [if_neg (by omega),if_neg (by omega),if_pos ho] at hX;obtain ⟨j,hj,ha1,ha2,ha3⟩:=Znu hp.nd ha;have hA0:=hp.ar _ (ZpW hj);rw [ha2,ha1,ZqN] at hX;by_cases hlt:0<p.funs[j].arity
    ·rw [if_pos hlt] at hX;rw [hX];replace hself:=ZpM hself;clear ih hpr hX
     (repeat' (first | (refine Zi1 mapFun hzn ha3 (by first | assumption | simp only [ZpU, *,if_false]) ?_) | (simp only [↓Wg,↓XM,↓XN,↓Xz,↓WV,↓XZ,↓WX,↓Wb,↓Xe,↓Yf,↓Yi,↓Wa,↓ZbR,↓Yu,↓Yr,↓Ys,↓Yt,↓YS,↓ZC,↓Xb,↓YH,↓YA,↓Zbx,↓Wr,↓Zjo,↓ZdZ,↓Jm,↓ZcO,↓Yb,↓ZbM,↓WA,↓XA,vcNil,Xc,ptrV,boolV,Zp3,Zqa,Zqb,Zqh,ZqM,Zqw,Zqx,ite_true,ite_false,ZpI,ZpJ,ZpT,Zp1,ne_eq,not_false_eq_true,true_and,ZqP,Zp7,decide_true,decide_false,reduceCtorEq,ZD,↓YV,↓YK,ZpU,ZM,fillV,setAt,eq_self,Zp2,ZqB,ZpL,and_self,ZqE,ZqF,Wi,ZkV,cl_sl,YT,Zn0,Zqs,Zqy,↓Zd3,ZpY,ZbA,XG,Zja,WY,XH,ZbB,Xr,WO,↓Ws,undef,Zp5,okV,ZM,Xc,ni_139,Yg,Ym,ZlH,Zdz,ZbL,ZQ,ZW,ZfE,ZiT,ZnL, *]) | (refine ZG ?_) | (refine ZJ mixed (fun _ _ _ _ e h=>⟨e.trans h.1,h.2⟩) _ (ZpN _) ?_) | (refine ZB fun zr zh=>?_; have zg:=zh; (try simp only [ZpO] at zg); (try have zn_x1:=ZpK x1 zh); (try have zn_x1:=ZpK x1 zg.2); (try have zn_x1:=ZpK x1 zg.2.2); (try have zn_hm1:=ZpK hm1 zh); (try have zn_hm1:=ZpK hm1 zg.2); (try have zn_hm1:=ZpK hm1 zg.2.2))))
     exact ⟨_,H,GhV.iface (GhV.agg (ZpZ (Zp8 _ _) (ZpZ ((GhV.nil _).trans (Zqq (by repeat (first | assumption | exact ZpN _ | refine ZpS ?_ (by simp only [*]))) _)) (GhL.nil _)))),.inl ⟨c,_,rfl,by rw [Zc7,Wy hj]; rfl,hself.out.symm⟩⟩
    ·rw [if_neg hlt] at hX;replace hself:=ZpM hself;clear hpr;replace hX:=ZpM hX
     (repeat' (first | (refine Zi1 mapFun hzn ha3 (by first | assumption | simp only [ZpU, *,if_false]) ?_) | (simp only [↓Wq,↓Wg,↓XM,↓XN,↓Xz,↓WV,↓XZ,↓Wb,↓Xe,↓Yf,↓Yi,↓Yu,↓Yr,↓Ys,↓Yt,↓YS,↓WZ,↓ZC,↓Xb,↓YH,↓YA,↓Zbx,↓Wr,↓ZdZ,↓ZcO,↓Yb,↓ZbM,↓XP,↓XF,↓WA,↓XA,vcNil,ptrV,boolV,Zp3,Zqa,ZqM,Zqw,Zqx,ite_true,ite_false,ZpI,ZpJ,ne_eq,not_false_eq_true,true_and,ZqP,Zp7,decide_true,decide_false,reduceCtorEq,ZD,↓YV,↓YK,↓YL,ZpU,eq_self,Zp2,ZqB,ZpL,Wi,ZkV,YT,↓Zd3,ZbA,XG,Zja,WY,XH,ZbB,Xr,WO,↓Ws,↓WC,undef,Zp5,okV,Yg,Ym,ZlH,Zdz,ZbL,ZQ,ZW,ZfE,ZiT,en_49, *]) | (refine ZJ mixed (fun _ _ _ _ e h=>⟨e.trans h.1,h.2⟩) _ (ZpN _) ?_) | (refine ZB fun zr zh=>?_; have zg:=zh; (try simp only [ZpO] at zg); (try have zn_x1:=ZpK x1 zh); (try have zn_x1:=ZpK x1 zg.2); (try have zn_x1:=ZpK x1 zg.2.2); (try have zn_hm1:=ZpK hm1 zh); (try have zn_hm1:=ZpK hm1 zg.2); (try have zn_hm1:=ZpK hm1 zg.2.2)) | (exact ZpN _) | (with_reducible refine And.intro ?_ ?_)))
     refine Yy (ZpZ (Zp8 _ _) (ZpZ (Zp8 _ _) (ZpZ ((GhV.nil _).trans (Zqq (show SubH H _ from (by repeat (first | assumption | exact ZpN _ | refine ZpS ?_ (by simp only [*])))) _)) (GhL.nil _)))) ?_;have hcl:=Zoj (d:=d) hp ih hj (us:=[]) (by simp) trivial (by simp only [Zqh]; omega) hd ⟨hc0,hcf⟩ hfu (by omega) hm;rw [Wy hj] at hcl;refine Zhe hcl (fun c2 w2 hR=>?_) (fun k c2 d2 hR=>?_)
     ·have hX2:=hX.out;rw [hR] at hX2;rw [hX2];obtain ⟨o1,o2⟩:=WU p.funs w2;clear hX hR hcl ih x1 x2 ha3 hX2
      (repeat' (first | (simp only [↓Zz,ZA,ZpI,ZpJ, *]) | (refine ZG ?_)))
      exact ⟨_,_,Zp8 _ _,.inl ⟨c2,w2,rfl,rfl,rfl⟩⟩
     ·have hX2:=hX.out;rw [hR] at hX2;rw [hX2];clear hX hR hcl ih x1 x2 ha3 hX2
      (repeat' (first | (simp only [↓Zz, *])))
      exact ZeH (c:=c2) (d':=d2) (ZpN _)
   ·rw [if_neg (by omega),if_neg (by omega),if_neg (by omega)] at hX
    have hdel:SubH (H.del r) H:=fun i b hb=>by
     by_cases e:i=r
     ·subst e; rw [AH.del_same] at hb; cases hb
     ·rw [Zqf _ e] at hb; exact hb
    have hls:=fun (r3 r4 r5:Nat) (H:AH)=>Zol (d:=d) (r3:=r3) (r4:=r4) (r5:=r5) (H:=H) ih hpr (e:=e) (ns:=ns) (vs:=vs) (c:=c) (fun k hk'=>⟨hk k hk',hkn k hk',by have:=Ya hk'; omega,by have:=Ya hk'; omega⟩) (by omega) hg.env ⟨hc0,hcf⟩ ⟨hd,hd2⟩
    replace hX:=ZpM hX;replace hls:=ZpM hls;clear ih hpr
    (repeat' (first | (refine ZJ mixed (fun _ _ _ _ e h=>⟨e.trans h.1,h.2⟩) _ (((hdel.set _ _).set _ _).set _ _) ?_) | (simp only [↓Wg,↓XM,↓XN,↓Xz,↓WV,↓XZ,↓Wb,↓Xe,↓Yf,↓Yi,↓Yu,↓Yr,↓Ys,↓Yt,↓YS,↓ZC,↓Xb,↓YH,↓YA,↓Wr,↓ZdZ,↓ZcO,↓Yb,↓XP,↓ZnW,↓XA,ptrV,Zp3,Zqa,ZqM,Zqw,Zqx,List.nil_append,ZqJ,ite_true,ite_false,ZpI,ZpJ,ne_eq,not_false_eq_true,true_and,Zp7,decide_true,decide_false,ZD,↓YK,↓YL,ZpU,eq_self,Zp2,ZqB,ZpL,Wi,ZkV,YT,↓Zd3,XG,WY,XH,Xr,WO,↓Ws,undef,Zp5,Yg,Ym,ZQ,ZW,en_47, *]) | (refine ZB fun zr zh=>?_; have zg:=zh; (try simp only [ZpO] at zg))))
    rename_i r3 h3 g3 r4 h4 g4;have f3:H r3=none:=by simpa using g3
    have f4:H r4=none:=g4.2;have f5:H zr=none:=by simp only [zg]
    have q3:=ZpK hm1 f3;have q4:=ZpK hm1 f4;have q5:=ZpK hm1 f5;have hs5:SubH H (((H.set r3 (.cells 91 [ptrV r 0] 0)).set r4 (.cells 35 [iV 3,sV e.name,encS exE e.kids] 0)).set zr (.cells 131 [envC p.funs vs ns] 0)):=(by repeat (first | assumption | exact ZpN _ | refine ZpS ?_ (by simp only [*])))
    refine ml_use (hls.out r3 r4 zr _ (hm.mono hs5) (by simp only [ZpU, *,if_true,if_false]<;>rfl) (by simp only [ZpU, *,if_true,if_false]<;>rfl) (by simp only [ZpU, *,if_true,if_false]<;>rfl)) (fun c1 l hR=>?_) (fun k c2 d2 hR=>?_)
    ·have hX2:=hX.out;rw [hR] at hX2;simp only [if_pos ho] at hX2;rw [hX2]
     have hsH:SubH ((((H.del r).set r3 (.cells 91 [ptrV r 0] 0)).set r4 (.cells 35 [iV 3,sV e.name,encS exE e.kids] 0)).set zr (.cells 131 [envC p.funs vs ns] 0)) ((((H.set r3 (.cells 91 [ptrV r 0] 0)).set r4 (.cells 35 [iV 3,sV e.name,encS exE e.kids] 0)).set zr (.cells 131 [envC p.funs vs ns] 0)).set r (mB m1 m2 fu c1 d)) :=
      ZpS (((hdel.set _ _).set _ _).set _ _) (by rw [ZpV _ _ q5.1,ZpV _ _ q4.1,ZpV _ _ q3.1,AH.del_same])
     unfold ptrV at hsH;have hs6:=Zqk hs5 r (mB m1 m2 fu c1 d);replace hs6:=ZpM hs6;clear hX hR hls hX2 hs5
     (repeat' (first | (simp only [↓Zz,ZA,Xc,ZpI,ZpJ,ZpT,Zp1,ZM,fillV,setAt,ZdB,ZM,Xc,ni_142,stT_142, *]) | (refine ZG ?_)))
     exact ⟨_,_,Zqq hs6.out _,.inl ⟨c1,_,rfl,by rw [Zcz],rfl⟩⟩
    ·have hX2:=hX.out;rw [hR] at hX2;simp only at hX2;rw [hX2];clear hX hR hls hX2
     (repeat' (first | (simp only [↓Zz, *])))
     exact ZeH (c:=c2) (d':=d2) (Zqk hs5 _ _)
   ·rw [if_neg (by omega),if_neg (by omega),if_neg (by omega)] at hX;have hls:=fun (r3 r4 r5:Nat) (H:AH)=>Zol (d:=d) (r3:=r3) (r4:=r4) (r5:=r5) (H:=H) ih hpr (e:=e) (ns:=ns) (vs:=vs) (c:=c) (fun k hk'=>⟨hk k hk',hkn k hk',by have:=Ya hk'; omega,by have:=Ya hk'; omega⟩) (by omega) hg.env ⟨hc0,hcf⟩ ⟨hd,hd2⟩
    have hlo:=fun c1 l=>ZdI (d:=d) hpr hg.env e.kids c c1 l (fun k hk'=>⟨hk k hk',hkn k hk',by have:=Ya hk'; omega⟩) ⟨hc0,hcf⟩
    replace hX:=ZpM hX;replace hls:=ZpM hls
    (repeat' (first | (simp only [↓Zz,ZA,ptrV,ZpI,ZpJ,ZD,ZpL,undef,Zp5,Yg,ZQ,en_47, *]) | (refine ZB fun zr zh=>?_; have zg:=zh; (try simp only [ZpO] at zg))))
    rename_i r3 h3 g3 r4 h4 g4;have f3:H r3=none:=by simpa using g3
    have f4:H r4=none:=g4.2;have f5:H zr=none:=by simp only [zg]
    have q3:=ZpK hm1 f3;have q4:=ZpK hm1 f4;have q5:=ZpK hm1 f5;have hs5:SubH H (((H.set r3 (.cells 91 [ptrV r 0] 0)).set r4 (.cells 35 [iV 4,sV e.name,encS exE e.kids] 0)).set zr (.cells 131 [envC p.funs vs ns] 0)):=(by repeat (first | assumption | exact ZpN _ | refine ZpS ?_ (by simp only [*])))
    refine ml_use (hls.out r3 r4 zr _ (hm.mono hs5) (by simp only [ZpU, *,if_true,if_false]<;>rfl) (by simp only [ZpU, *,if_true,if_false]<;>rfl) (by simp only [ZpU, *,if_true,if_false]<;>rfl)) (fun c1 us hR=>?_) (fun k c2 d2 hR=>?_)
    ·obtain ⟨g1,g2,g3,g4⟩:=hlo _ _ hR
     obtain ⟨a,l,hl⟩:∃ a l,us=a::l:=by
      cases us with
      | nil=>simp at g2; omega
      | cons a l=>exact ⟨a,l,rfl⟩
     have hX2:X=appG p fu (evG p fu g) l.length c1 d a l:=by
      have:=hX.out
      rw [hR] at this;rw [this,hl];exact if_neg (by omega)
     have hz':(0:Int)<(us.length:Int):=by omega
     have hd0:ZpL (Int.toNat 0) (a.vv p.funs::encC (valE p.funs) l)=a.vv p.funs::encC (valE p.funs) l:=rfl;have hcs:encC (valE p.funs) us=a.vv p.funs::encC (valE p.funs) l:=by rw [hl]; rfl
     have hl1:us.length-1=l.length:=by rw [hl]; simp
     have hga:a.ok p∧YP p l:=by rw [hl] at g1; exact g1
     have hap:=fun ex H=>apply_ok (H:=H) (ex:=ex) hp ih hpr (c:=c1) (d:=d) hga.1 (us:=l) (by omega) hga.2 hd ⟨by omega,g4⟩ hfu (by omega)
     have hM6:=(hm.mono hs5).set (c':=c1) (d':=d);have hs6:=fun b=>Zqk hs5 r b
     obtain ⟨o1,o2⟩:=WU p.funs a;replace hs6:=ZpM hs6;replace hX2:=ZpM hX2;replace hap:=ZpM hap;replace g2:=ZpM g2;clear hX hR hls hs5 hlo ih hpr hl x1 x2
     (repeat' (first | (simp only [↓Zz,ZA,ZpI,ZpJ,ZpL,Zqi,Int.reduceToNat,YC,Zqz,Zp6,Xj,idxV,idxOk,imp_self,ZfE,Zbk,YJ,en_50, *]) | (refine ZJ mixed (fun _ _ _ _ e h=>⟨e.trans h.1,h.2⟩) _ (ZpN _) ?_) | (with_reducible refine And.intro ?_ ?_)))
     ·omega
     refine Zhe (hap.out _ _ hM6 l.length (ZpY _)) (fun c2 w hR=>?_) (fun k c2 d2 hR=>?_)
     ·have hX3:=hX2.out.trans hR;rw [hX3];clear hX2 hR hX3 hap;obtain ⟨o1,o2⟩:=WU p.funs w
      (repeat' (first | (simp only [↓Zz,ZA,ZpI,ZpJ, *]) | (refine ZG ?_)))
      refine ⟨_,_,Zqq ?_ _,.inl ⟨c2,w,rfl,rfl,rfl⟩⟩;exact hs6.out _
     ·have hX3:=hX2.out.trans hR;rw [hX3];clear hX2 hR hX3 hap
      (repeat' (first | (simp only [↓Zz,ZA, *])))
      refine ZeH (c:=c2) (d':=d2) ?_;exact hs6.out _
    ·have hX2:=hX.out;rw [hR] at hX2;simp only at hX2;rw [hX2];clear hX hR hls hX2
     (repeat' (first | (simp only [↓Zz, *])))
     exact ZeH (c:=c2) (d':=d2) (Zqk hs5 _ _)
end Go.PV.YtglpmlbbaedbiaaGreat
end
section
open Bool renaming and_eq_true→ZqA
open List renaming length_cons→Zqb
open Nat renaming lt_or_ge→Zqm
namespace Go.PV
section
variable {cx:Cx} {ops:Array Oper} {Q:APost} {Hh:AH} {Hi:Nat→AH} {stop:List Nat} {full:Array Bool} {cut:Option Nat} {K:AF→AH→Prop} {D:Nat→Prop}
def panD (D:Nat→Prop) (Q:APost):Prop:=∀ c (A:AF) (d:Nat) x H,D d→Q (.panic c) (A.put (some d) x) H→Q (.panic c) A H
theorem pan_put {o:Option Tmp} {c:List PanicEntry} {A:AF} {x:VV} {H:AH} (hQ:panD D Q) (ho:∀ d,o=some d→D d) (h:Q (.panic c) (A.put o x) H):Q (.panic c) A H:=by
 cases o with
 | none=>exact h
 | some d=>exact hQ c A d x H (ho d rfl) h
def tkD:GPlan→List Nat
 | .fin=>[]
 | .tk _ o p=>o.dst.toList++tkD p
 | .one _ _ p=>tkD p
 | .cut _ p=>tkD p
 | .two _ _ p _ _ p'=>tkD p++tkD p'
theorem vcG_putD {oi oj:Oper} {x:VV} {A:AF} {H:AH} {next:AF→AH→Prop} (hQ:panD D Q) (hoi:∀ d,oi.dst=some d→D d) (hap:oi.apart ops oj=true) (hnd:∀ c,oj.op ≠ .defer c) (h:vcG cx (gopOf ops oj) next Q (A.put oi.dst x) H) :
 vcG cx (gopOf ops oj) (fun A' H'=>(∃ u,A'=A.put oj.dst u)∧next (A'.put oi.dst x) H') Q A H:=by
 obtain ⟨h1,h2,h3⟩:=Oper.apart_spec hap;have hsame:AF.same (oj.looksAt ops) A (A.put oi.dst x):=ZfX h1
 have hdo:vcDo cx (gopOf ops oj) next Q (A.put oi.dst x) H→vcDo cx (gopOf ops oj) (fun A' H'=>(∃ u,A'=A.put oj.dst u)∧next (A'.put oi.dst x) H') Q A H:=by
  rw [ZaZ (o:=gopOf ops oj) hnd,ZaZ (o:=gopOf ops oj) hnd];rintro ⟨g1,g2⟩;refine ⟨g1,?_⟩
  change vcOp cx oj.op _ _ _ at g2
  rw [Ze1 (JF hsame)] at g2;refine Zgw ?_ g2;intro e H' hk;cases e with
  | ret u =>
    refine ⟨⟨u,rfl⟩,?_⟩;have hk:next ((A.put oi.dst x).put oj.dst u) H':=hk;rw [Zcv h2] at hk;exact hk
  | pan ch=>exact pan_put hQ hoi hk
 unfold vcG at *
 split
 ·rename_i e;simp only [e] at h;exact hdo h
 ·rename_i d want e;simp only [e] at h;rw [ZcP hsame e] at h;split
  ·rename_i b hb;simp only [hb] at h;split at h
   ·rename_i hbw; rw [if_pos hbw]; exact hdo h
   ·rename_i hbw; rw [if_neg hbw];refine ⟨h.1,by have:=h.2.1; rwa [show (gopOf ops oj).op=oj.op from rfl,Jr (JF hsame)] at this,⟨ZD,rfl⟩,?_⟩;have hk:=h.2.2
    change next ((A.put oi.dst x).put oj.dst ZD) H at hk
    rw [Zcv h2] at hk;exact hk
  ·rename_i vs hb;simp only [hb] at h;refine ⟨h.1,by have:=h.2.1; rwa [show (gopOf ops oj).op=oj.op from rfl,Jr (JF hsame)] at this,⟨ZD,rfl⟩,?_⟩;have hk:=h.2.2
   change next ((A.put oi.dst x).put oj.dst ZD) H at hk
   rw [Zcv h2] at hk;exact hk
  ·rename_i hb hb2
   revert h
   split
   ·rename_i b hb'; exact absurd hb' (hb b)
   ·rename_i vs hb'; exact absurd hb' (hb2 vs)
   ·exact fun h=>h
theorem ZgR {i:Nat} {oi:Oper} {x:VV} (hci:cut ≠ some i) (hcut:∀ j,cut=some j→Zg6 oi.op=true∨∀ listed,Ja ops listed→listed.getD j false=true→listed.getD i false=true) (hnd:∀ (j:Nat) (o:Oper) c,ops[j]?=some o→o.op ≠ .defer c) (hQ:panD D Q) (hoi:∀ d,oi.dst=some d→D d) (hi:ops[i]?=some oi) :
 ∀ (n:Nat) (listed:Array Bool) (A:AF) (H:AH),Ja ops listed →
   (∀ j oj,ops[j]?=some oj→j ≠ i→listed.getD j true=false→(∀ e∈oj.after,Region.binds .any e=true→e.on ≠ i)→oi.apart ops oj=true) →
   i∈rdy ops stop listed→TkG cx (gopOf ops oi) A (Hi i) x→(gone cut listed∨SubH (Hi i) H)→AAny cx ops Q Hi stop full cut K n (listed.setIfInBounds i true) (A.put oi.dst x) H→AAny cx ops Q Hi stop full cut K (n+1) listed A H
 | n,listed,A,H,hcl,hfree,hr,ht,hsub,hh=>by
   refine ⟨fun e=>(by rw [e] at hr; cases hr),fun j hj=>?_⟩;by_cases hji:j=i
   ·subst hji;simp only [AOp,hi];rcases hsub with hg | hsub
    ·have hg':=hg.set j;obtain ⟨c,hc,hl⟩:=hg;rcases hcut c hc with hp | hp
     ·exact (ht.pure hp H).use (SubH.refl _) ⟨.inl hg',hh⟩
     ·exfalso
      have h1:=hp listed hcl hl;have h0:=(mem_ready.1 (YD hr).1).1;rcases Zqm j listed.size with h' | h'
      ·simp [h'] at h0 h1; rw [h0] at h1; cases h1
      ·simp [Array.getElem?_eq_none h'] at h1
    ·exact ht.use hsub ⟨.inr fun _ _ h=>h,hh⟩
   ·have hj':=ZfY (i:=i) hj hji;cases n with
    | zero=>rw [hh.1] at hj'; cases hj'
    | succ n =>
      have h1:=hh.2 j hj';obtain ⟨hjun,oj,hoj,hall⟩:=mem_ready.1 (YD hj).1
      have hnot:∀ e∈oj.after,Region.binds .any e=true→e.on ≠ i:=fun e he hb heq=>by
       have h1:=hall e he hb;have h0:=(mem_ready.1 (YD hr).1).1;rw [heq] at h1;rcases Zqm i listed.size with h' | h'
       ·simp [h'] at h0 h1; rw [h0] at h1; cases h1
       ·simp [Array.getElem?_eq_none h'] at h1
      have hap:=hfree j oj hoj hji hjun hnot;simp only [AOp,hoj] at h1 ⊢;refine JB (o:=gopOf ops oj) (fun c=>hnd j oj c hoj) ?_ (vcG_putD (oi:=oi) hQ hoi hap (fun c=>hnd j oj c hoj) h1);rintro A' H' ⟨⟨u,rfl⟩,g1,g2⟩
      have g1:gone cut (listed.setIfInBounds j true)∨∀ k∈Zda ops j,SubH (Hi k) H→SubH (Hi k) H':=by
       rcases g1 with ⟨c,hc,hl⟩ | g1
       ·left;rw [Array.setIfInBounds_comm _ _ (Ne.symm hji)] at hl;rcases ZcF hl with rfl | hl
        ·exact absurd hc hci
        ·exact ⟨c,hc,hl⟩
       ·exact .inr g1
      have g3:gone cut (listed.setIfInBounds j true)∨SubH (Hi i) H':=by
       rcases g1 with g1 | g1
       ·exact .inl g1
       ·rcases hsub with hg | hsub
        ·exact .inl (hg.set j)
        ·exact .inr (g1 i (ZlJ hcl (YD hj).1 (YD hr).1) hsub)
      refine ⟨g1,ZgR hci hcut hnd hQ hoi hi n _ _ H' (hcl.set (YD hj).1) ?_ (ZfY hr (Ne.symm hji)) (ht.same (ZfX (Oper.apart_spec hap).2.2)) g3 ?_⟩
      ·intro k ok hk hki hun hno;refine hfree k ok hk hki ?_ hno;by_cases hjk:j=k
       ·subst hjk; exact hjun
       ·rw [getD_set_ne true hjk] at hun; exact hun
      ·rw [Array.setIfInBounds_comm _ _ hji];exact g2
theorem Jw (hcut:cutOk ops stop cut) (hnd:∀ (j:Nat) (o:Oper) c,ops[j]?=some o→o.op ≠ .defer c) (hQ:panD D Q):∀ (n:Nat) (listed:Array Bool) (g:GPlan) (A:AF) (H:AH),planT cx.P ops stop full cut n listed=some g→(∀ d∈tkD g,D d)→Ja ops listed→vcPl2 cx Hi g K Q A H→(gone cut listed∨∀ k,k<ops.size→listed.getD k true=false→SubH (Hi k) H) →
 AAny cx ops Q Hi stop full cut K n listed A H
 | 0,listed,g,A,H,hp,hD,hcl,h,hsub=>by
   simp only [planT] at hp;split at hp
   ·rename_i e;cases hp;simp only [ZqA,beq_iff_eq,List.isEmpty_iff] at e;exact ⟨e.2,e.1,h⟩
   ·cases hp
 | n+1,listed,g,A,H,hp,hD,hcl,h,hsub=>by
   simp only [planT] at hp;split at hp
   ·rename_i e;cases hp;simp only [ZqA,beq_iff_eq,List.isEmpty_iff] at e;exact ⟨fun _=>⟨e.1,h⟩,fun i hi=>by rw [e.2] at hi; cases hi⟩
   ·split at hp
    ·rename_i i hfind;have hir:=List.mem_of_find?_eq_some hfind;have hik0:=List.find?_some hfind;simp only [ZqA,bne_iff_ne,ne_eq] at hik0;obtain ⟨hik,hci⟩:=hik0;split at hp
     ·rename_i o p ho hp';cases hp;obtain ⟨oi,hi,rfl⟩:=Za0 ho;simp only [isTk,hi,ZqA] at hik;obtain ⟨x,h1,h2⟩:=TkG.of (o:=gopOf ops oi) hik.1 h;exact ZgR hci (hcut i oi hi (YD hir).2 hci) hnd hQ (fun d h=>hD d (by simp [tkD,gopOf,h])) hi n listed A H hcl (Region.free_spec hi hik.2) hir h1 (hsub.imp id fun h=>h i (rdy_lt hi) (mem_ready.1 (YD hir).1).1) (Jw hcut hnd hQ n _ p _ H hp' (fun d h=>hD d (by first | (simp [tkD,h]; done) | (split<;>simp [tkD,h]))) (hcl.set (YD hir).1) h2 (hsub.imp (fun h=>h.set i) (fun h k hk hu=>h k hk (WG hu))))
     ·cases hp
    ·split at hp
     ·rename_i i hrd;split at hp
      ·rename_i o p ho hp';cases hp;obtain ⟨oi,hi,rfl⟩:=Za0 ho;refine ⟨fun e=>(by rw [hrd] at e; cases e),fun j hj=>?_⟩;have hjr:=hj;rw [hrd] at hj;obtain rfl:j=i:=by simpa using hj
       simp only [AOp,hi];split at h
       ·rename_i hcj
        have hg:gone cut (listed.setIfInBounds j true):=by
         refine ⟨j,by simpa using hcj,?_⟩;have h0:=(mem_ready.1 (YD hjr).1).1;rcases Zqm j listed.size with h' | h'
         ·simp [Array.getD_eq_getD_getElem?,h']
         ·simp [Array.getElem?_eq_none h'] at h0
        exact JB (o:=gopOf ops oi) (fun c=>hnd j oi c hi) (fun A' H' hk=>⟨.inl hg,Jw hcut hnd hQ n _ p A' H' hp' (fun d h=>hD d (by first | (simp [tkD,h]; done) | (split<;>simp [tkD,h]))) (hcl.set (YD hjr).1) hk (.inl hg)⟩) h
       ·exact JB (o:=gopOf ops oi) (fun c=>hnd j oi c hi) (fun A' H' hk=>⟨.inr hk.1,Jw hcut hnd hQ n _ p A' H' hp' (fun d h=>hD d (by first | (simp [tkD,h]; done) | (split<;>simp [tkD,h]))) (hcl.set (YD hjr).1) hk.2 (hsub.imp (fun h=>h.set j) fun h k hks hu=>hk.1 k (Zc2 hcl (YD hjr).1 hks (WG hu)) (h k hks (WG hu)))⟩) h
      ·cases hp
     ·rename_i i j hrd;split at hp
      ·rename_i o p o' p' ho hp' ho' hp'';cases hp;obtain ⟨oi,hi,rfl⟩:=Za0 ho;obtain ⟨oj,hj,rfl⟩:=Za0 ho';refine ⟨fun e=>(by rw [hrd] at e; cases e),fun k hk=>?_⟩;have hkr:=hk;rw [hrd] at hk;have hk:k=i∨k=j:=by simpa using hk
       rcases hk with rfl | rfl
       ·simp only [AOp,hi];exact JB (o:=gopOf ops oi) (fun c=>hnd k oi c hi) (fun A' H' hk=>⟨.inr hk.1,Jw hcut hnd hQ n _ p A' H' hp' (fun d h=>hD d (by first | (simp [tkD,h]; done) | (split<;>simp [tkD,h]))) (hcl.set (YD hkr).1) hk.2 (hsub.imp (fun h=>h.set k) fun h q hqs hu=>hk.1 q (Zc2 hcl (YD hkr).1 hqs (WG hu)) (h q hqs (WG hu)))⟩) h.1
       ·simp only [AOp,hj];exact JB (o:=gopOf ops oj) (fun c=>hnd k oj c hj) (fun A' H' hk=>⟨.inr hk.1,Jw hcut hnd hQ n _ p' A' H' hp'' (fun d h=>hD d (by first | (simp [tkD,h]; done) | (split<;>simp [tkD,h]))) (hcl.set (YD hkr).1) hk.2 (hsub.imp (fun h=>h.set k) fun h q hqs hu=>hk.1 q (Zc2 hcl (YD hkr).1 hqs (WG hu)) (h q hqs (WG hu)))⟩) h.2
      ·cases hp
     ·cases hp
theorem ZmN {p:GPlan} {tail:List GOp} {A:AF} {H:AH} (hm:cx.P.follows .mixedOrders=true) (hQ:panD D Q) (hD:∀ d∈tkD p,D d) (Hi:Nat→AH) (hsub:∀ k,SubH (Hi k) H) (h:vcPl2 cx Hi p (vcL cx tail Q) Q A H):ACx cx (.dreg p tail) Q A H:=by
 intro c hc;cases c with
 | region id ops draw =>
   unfold ZS at hc;split at hc
   ·rename_i hd;subst hd;unfold Xo at hc;dsimp only at hc;split at hc
    ·rename_i hcond;simp only [ZqA] at hcond;obtain ⟨⟨⟨hg,_⟩,hnd⟩,htail⟩:=hcond;split at hc
     ·rename_i p' q hp hq;cases hc
      have hnd':∀ (j:Nat) (o:Oper) c,ops[j]?=some o→o.op ≠ .defer c:=fun j o c hj hd=>by
       have hjs:j<ops.size:=by
        rcases Zqm j ops.size with h | h
        ·exact h
        ·rw [Array.getElem?_eq_none h] at hj; cases hj
       rw [Array.getElem?_eq_getElem hjs] at hj;cases hj
       have:=Array.all_eq_true.1 hnd j hjs
       rw [hd] at this;cases this
      have hany:=Jw (cx:=cx) (K:=vcL cx (q.filterMap (gAt ops)) Q) (ZlK ops _) hnd' hQ _ _ p A H hp hD (Ja.none _) h (.inr fun k _ _=>hsub k);intro S w a hs hf;refine wpIn_region_any hm ?_;have hs':=hs.drawn (w.drawn+1);have hk:=Step.drawn S H w (w.drawn+1);have hf':=hf.step hs hk
      have:=Ze2 (cx:=cx) (Q:=Q) (Hi:=Hi) (m:=(ZiQ ops ops.size).length) (S0:=S) (H0:=H) (w0:=w) hg htail
       (fun A H S w a hk h1 h2 h3 fuel hfu=>Zdp hg _ _ q A H S w a hq hk h1 h2 h3 fuel hfu) _ _ A H S _ a (Ja.none _) hany hk hs' hf'
      have hlen:(ZiQ ops ops.size).length≤ops.size:=by
       have hg:∀ n listed,(Zc9 ops n listed).length≤n:=by
        intro n
        induction n with
        | zero=>simp [Zc9]
        | succ n ih =>
          intro listed;simp only [Zc9];split
          ·simp
          ·have:=ih (listed.setIfInBounds ‹_› true)
           simp only [Zqb]; omega
       have ht:∀ (order:List Nat) n,(Zem ops order n).length≤order.length:=by
        intro order n
        induction n with
        | zero=>simp [Zem]
        | succ n ih =>
          simp only [Zem];split
          ·split
           ·simp
           ·exact ih
          ·simp
       exact Nat.le_trans (ht _ _) (hg _ _)
      rwa [Nat.sub_add_cancel hlen] at this
     ·cases hc
    ·cases hc
   ·split at hc<;>cases hc
 | seq x y=>simp only [ZS] at hc; split at hc<;>cases hc
 | _=>simp [ZS] at hc
theorem Zee {p:GPlan} {tail:List GOp} {A:AF} {H:AH} (hm:cx.P.follows .mixedOrders=true) (hQ:panD D Q) (hD:∀ d∈tkD p,D d) (Hh:AH) (hsub:SubH Hh H) (h:vcPl cx Hh p (vcL cx tail Q) Q A H):ACx cx (.dreg p tail) Q A H :=
 ZmN hm hQ hD (fun _=>Hh) (fun _=>hsub) (ZbN p A H h)
end
end Go.PV
end
section
open Bool renaming and_self→Zqo,false_eq_true→ZqP
open Go.PV.AH renaming set_ne→ZpV,set_same→ZpP,set_none→ZpO,get→ZpU,set_set→Zqj,ne_of→ZpK
open Go.PV.GhL renaming cons→ZpZ
open Go.PV.GhV renaming refl→Zp8,forget→Zqq
open Go.PV.Hold renaming mk→ZpM
open Go.PV.SubH renaming of_set→ZpS,refl→ZpN,set→Zqk,new→ZpR
open Int renaming reduceEq→Zp5
open List renaming drop_zero→ZqL,drop→ZpL,map_cons→Zp3,map_nil→Zqa,length_cons→Zqb,length_nil→Zqh,getD_cons_zero→ZqM,getD_cons_succ→Zqw,getD_nil→Zqx,all_cons→Zqn,all_nil→Zqv,getElem?_cons_zero→ZqE,getElem?_cons_succ→ZqF,set_cons_zero→Zqs,set_cons_succ→Zqy
open Nat renaming reduceEqDiff→ZpI,reduceLT→ZpJ,reduceAdd→ZpT,succ_ne_self→Zp7,zero_add→Zp2,le_refl→ZpY,reduceLeDiff→Zp1,lt_succ_self→ZqK,add_zero→ZqB
open Option renaming bind_some→Zqg,map_some→Zp6
set_option maxRecDepth 20000
set_option maxHeartbeats 4000000
namespace Go.PV.YtglpmlbbaedbiaaGreat
open Go Go.Proofs
def gasOf (fu:Int) (e:Ex):Nat:=(fu * 5001+e.sz+1).toNat
def endF (p:Pr):EvR→Ex × Int × Int
 | .error k=>(zEx,0,k)
 | .ok (c,v)=>if 5000<(v.ex p).full then (zEx,0,7) else if v.pl=true then (v.ex p,c,0) else (zEx,0,423)
noncomputable def runF (p:Pr) (e:Ex) (fu:Int):Ex × Int × Int :=
 if JZ p e=0 then (if fu<0∨100000<fu then (zEx,0,4) else endF p (evG p fu (gasOf fu e) 0 0 e [] [])) else (zEx,0,JZ p e)
def runX (x:Ex × Int × Int):VV:=.tuple [.agg [iV x.1.op,sV x.1.name,exsV x.1.kids,iV x.2.1],iV x.2.2]
theorem Zoy {p:Pr} {e:Ex} (h:JZ p e=0):Jv p=0∧e.sz≤5000∧e.sdF p []=0:=by
 unfold JZ at h;split at h
 ·rename_i hc;split at h
  ·cases h
  ·split at h
   ·cases h
   ·exact ⟨hc,by omega,h⟩
 ·rename_i hc; exact absurd h hc
abbrev rnQ (x:Ex × Int × Int) (H:AH):VE→AH→Prop:=fun e H'=>∃ y,e=.ret y∧GhV H' y H (runX x)
theorem ldT_res:ldT Tryz.prog 37=some (4,true):=by kernel_rfl
theorem Zbq.mono {P:Program} {f:FuncId} {xs:List VV} {u:FrameMode} {H:AH} {K K':VE→FrameMode→AH→Prop} (h:Zbq P f xs u H K) (hk:∀ e u H,K e u H→K' e u H):Zbq P f xs u H K':=fun S w args hs hx=>CallsDIn.mono (h S w args hs hx) fun e u' w' hq=>by
 cases e with
 | returned v=>obtain ⟨S',H',x,h1,h2,h3,h4⟩:=hq; exact ⟨S',H',x,h1,h2,h3,hk _ _ _ h4⟩
 | panicked ch=>obtain ⟨S',H',h1,h2,h4⟩:=hq; exact ⟨S',H',h1,h2,hk _ _ _ h4⟩
 | outgrown=>exact hq
theorem Zbc {P:Program} {rs:List ResultVar} {K:VE→AH→Prop} {t t':Nat→VV} (he:∀ H,resV P rs ⟨t,[]⟩ H=resV P rs ⟨t',[]⟩ H):∀ (ds:List Deferred) (u:FrameMode) (H:AH),WL P rs K t ds u H→WL P rs K t' ds u H
 | [],.returning,H,h=>by
   obtain ⟨x,H',x',g1,g2,g3⟩:=h;exact ⟨x,H',x',by rw [← he]; exact g1,g2,g3⟩
 | [],.panicking ch,H,h=>h
 | [],.run,H,h=>h
 | ⟨.collected r,_⟩::ds,u,H,h=>⟨h.1,h.2.1,Zbc he ds u _ h.2.2⟩
 | ⟨.fn (.func f) cap,args⟩::ds,u,H,h=>by
   obtain ⟨h1,h2,xs,H0,h3,h4⟩:=h;refine ⟨h1,h2,xs,H0,h3,Zbq.mono h4 fun e u' H' hk=>?_⟩;cases e with
   | ret x=>exact Zbc he ds _ H' hk
   | pan ch=>exact Zbc he ds _ H' hk
 | ⟨.nil,_⟩::ds,u,H,h=>h
 | ⟨.builtin _ _ _ _,_⟩::ds,u,H,h=>h
 | ⟨.coroexit _,_⟩::ds,u,H,h=>h
 | ⟨.fn (.method _) _,_⟩::ds,u,H,h=>h
 | ⟨.fn (.methodOf _ _) _,_⟩::ds,u,H,h=>h
 | ⟨.fn (.via _ _ _ _) _,_⟩::ds,u,H,h=>h
 | ⟨.fn (.yield _) _,_⟩::ds,u,H,h=>h
abbrev D67:Nat→Prop:=fun d=>¬ 6=d∧¬ 7=d
theorem Zab {K:VE→AH→Prop}:panD D67 (Zcw Tryz.prog [.cell 6 37,.cell 7 38] K):=fun c A d x H hd h=>by
 refine Zbc (fun H=>?_) _ _ _ h;show resV Tryz.prog _ ⟨upd A.t d x,[]⟩ H=_;simp only [resV,YY,YX,upd,if_neg hd.1,if_neg hd.2]
theorem YG {K:AF→AH→Prop} {Q:APost} {D:Nat→Prop} (h:panD D Q):panD D (thenA K Q):=h
theorem ZdM {H H':AH} {t:Nat→VV} {r6 r7:Nat} {x:Ex × Int × Int} {a b c d y:VV} (h6:t 6=ptrV r6 0) (h7:t 7=ptrV r7 0) (k6:H' r6=some (.cells 37 [a,b,c,d] 0)) (k7:H' r7=some (.cells 38 [y] 0)) (hg:GhV H' (.tuple [.agg [a,b,c,d],y]) H (runX x)) :
 WL Tryz.prog [.cell 6 37,.cell 7 38] (rnQ x H) t [] .returning H':=by
 refine ⟨_,H',_,?_,.refl _ _,_,rfl,hg⟩;simp only [resV,YY,YX,ldT_res,YO,h6,h7,k6,k7,ptrV,ZqL,Znn,Wi,Zqg,Zp6,tupV]
theorem Za4 {H H':AH} (hs:SubH H H') (k:Int):GhV H' (.tuple [.agg zR,iV k]) H (runX (zEx,0,k)) :=
 GhV.tuple (ZpZ (GhV.agg (ZpZ (Zp8 _ _) (ZpZ (Zp8 _ _) (ZpZ ((GhV.nil _).trans (Zqq hs _)) (ZpZ (Zp8 _ _) (GhL.nil _)))))) (ZpZ (Zp8 _ _) (GhL.nil _)))
abbrev dfR (r6 r7:Nat):Deferred:={ target:=.fn (.func 25) #[.pointer (some ⟨r6,0,none⟩),.pointer (some ⟨r7,0,none⟩)],args:=#[] }
theorem en_rec:ZF Tryz.prog 25=true:=by kernel_rfl
theorem ZkA {H H':AH} {t:Nat→VV} {r6 r7:Nat} {k x7:Int} {a b c d:VV} (h6:t 6=ptrV r6 0) (h7:t 7=ptrV r7 0) (k6:H' r6=some (.cells 37 [a,b,c,d] 0)) (k7:H' r7=some (.cells 38 [iV x7] 0)) (d67:¬ r6=r7∧¬ r7=r6) (f6:H r6=none) (f7:H r7=none) (hs:SubH H H') :
 WL Tryz.prog [.cell 6 37,.cell 7 38] (rnQ (zEx,0,k) H) t [dfR r6 r7] (.panicking (stopE k)) H':=by
 refine ⟨by simp,en_rec,[ptrV r6 0,ptrV r7 0],_,ZpZ (Zp8 _ _) (ZpZ (Zp8 _ _) (GhL.nil _)),?_⟩;refine rec_stop k6 k7 d67 (fun u H2 h2=>?_);refine ZdM (r6:=r6) (r7:=r7) h6 h7 (h2 _ _ (by rw [ZpV _ _ d67.1,ZpP])) (h2 _ _ (ZpP _ _ _)) (Za4 (SubH.trans ?_ h2) k);exact ZpS (ZpS hs f6) f7
theorem rn_done {H H':AH} {t:Nat→VV} {r6 r7:Nat} {x:Ex × Int × Int} (h6:t 6=ptrV r6 0) (h7:t 7=ptrV r7 0) (k6:H' r6=some (.cells 37 [iV x.1.op,sV x.1.name,exsV x.1.kids,iV x.2.1] 0)) (k7:H' r7=some (.cells 38 [iV x.2.2] 0)) (hs:SubH H H') :
 WL Tryz.prog [.cell 6 37,.cell 7 38] (rnQ x H) t [dfR r6 r7] .returning H':=by
 refine ⟨by simp,en_rec,[ptrV r6 0,ptrV r7 0],_,ZpZ (Zp8 _ _) (ZpZ (Zp8 _ _) (GhL.nil _)),?_⟩;refine rec_nil (by simp) (fun u=>?_);exact ZdM (r6:=r6) (r7:=r7) h6 h7 k6 k7 (Zqq hs _)
theorem Zny {p:Pr} {e:Ex} {fu:Int} (hp:PrOk p) (hs:e.sz≤1099511627776) (hn:e.nmOk):PureF Tryz.prog 8 [prV p,exV e,iV fu] (runX (runF p e fu)):=by
 refine JN.pure fun H=>?_
 unfold JN;refine ZaE fd8 (by simp) ?_;delta c8 Zj Zi Zb Zo Zr Za Zh Zg Zm Zp Zq Zc Zd;have hrt:=fun (H:AH) (K:VE→AH→Prop) hK=>right_ok (H:=H) (K:=K) hp hs hn hK
 replace hrt:=ZpM hrt
 (repeat' (first | (simp only [↓Zz,ZA,ptrV,ZpI,ZpJ,ZD,ZpL,undef,Za8,YZ,Zcp,ZlG,en_24, *]) | (refine ZB fun zr zh=>?_; have zg:=zh; (try simp only [ZpO] at zg))))
 rename_i r3 h3 g3 r4 h4 g4 r6 h6 g6;have f6:H r6=none:=by simp only [g6]
 have f7:H zr=none:=by simp only [zg]
 have d67:¬ r6=zr∧¬ zr=r6:=by simp only [zg]; simp
 have f4:H r4=none:=g4.2;have f3:H r3=none:=by simpa using g3
 have hsA:SubH H ((((H.set r3 (.cells 44 [cosV p.cons,fusV p.funs] 0)).set r4 (.cells 35 [iV e.op,sV e.name,encS exE e.kids] 0)).set r6 (.cells 37 zR 0)).set zr (.cells 38 [iV 0] 0)):=(by repeat (first | assumption | exact ZpN _ | refine ZpS ?_ (by simp only [*])))
 refine hrt.out _ _ (fun a b H' hs' hT=>?_);have hs2:=hsA.trans hs';have k4:H' r4=some (.cells 35 [iV e.op,sV e.name,encS exE e.kids] 0):=hs' _ _ (by simp only [ZpU, *,if_true,if_false]<;>rfl);have k6:H' r6=some (.cells 37 zR 0):=hs' _ _ (by simp only [ZpU, *,if_true,if_false]<;>rfl);have k7:H' zr=some (.cells 38 [iV 0] 0):=hs' _ _ (by simp only [ZpU, *,if_true,if_false]<;>rfl);generalize zr=r7 at *
 clear hsA hs' h3 g3 h4 g4 h6 g6 zh zg hrt f3;by_cases hr:JZ p e=0
 ·have hzz:=Zoy hr;replace hT:=hT hr;by_cases hfu:fu<0∨100000<fu
  ·have hF:runF p e fu=(zEx,0,4):=by unfold runF; rw [if_pos hr,if_pos hfu]
   rw [hF,hr];clear hF hzz hT hr;by_cases hf1:fu<0
   ·(repeat' (first | (refine Zee (D:=D67) mixed (by with_reducible first | exact Zab | exact YG Zab | exact YG (YG Zab) | exact YG (YG (YG Zab))) (by decide) (AH.nil.set _ _) (Zqk (Zca _) _ _) ?_) | (refine Zqk (Zca _) _ _) | (simp only [↓Wg,↓XM,↓XN,↓Xz,↓WX,↓Wb,↓Xe,↓Yf,↓Zag,↓JE,↓Zgv,↓Yi,↓Wa,↓Yu,↓Yr,↓XJ,↓Ys,↓XK,↓Yt,↓YS,↓ZC,↓Xb,↓Jh,↓Zah,↓Zbn,↓YA,↓YU,↓Wr,↓Wv,↓Jm,↓Wh,↓Wm,↓XA,↓Ji,ZI,ptrV,Zp3,Zqa,Zqb,Zqh,ZqM,Zqw,Zqx,ite_true,ite_false,ZpI,ZpJ,ZpT,true_and,Zp7,decide_true,decide_false,Bool.not_false,ZN,ZD,↓YV,↓YK,↓YL,ZpU,Zqj,ZM,fillV,setAt,Zqn,Zqv,Zqo,eq_self,Zp2,ZpL,ZqE,ZqF,Wi,Zap,XS,We,ZkW,ZkX,YT,Zqs,Zqy,↓Ww,XW,ZpY,XG,XH,Xr,WP,WQ,↓Ws,↓WC,undef,Zp5,ZM,Zh2,YO,ZbX,JW,Zco,ZiS,JP, *]) | (refine ZB fun zr zh=>?_; have zg:=zh; (try simp only [ZpO] at zg); (try have zn_k6:=ZpK k6 zh); (try have zn_k6:=ZpK k6 zg.2); (try have zn_k6:=ZpK k6 zg.2.2); (try have zn_k7:=ZpK k7 zh); (try have zn_k7:=ZpK k7 zg.2); (try have zn_k7:=ZpK k7 zg.2.2); (try have zn_k4:=ZpK k4 zh); (try have zn_k4:=ZpK k4 zg.2); (try have zn_k4:=ZpK k4 zg.2.2)) | (refine ZpS ?_ ?_) | (with_reducible refine And.intro ?_ ?_)))
    exact ZdM (r6:=r6) (r7:=r7) (by simp only [ZC,ZpI,if_true,if_false, *]<;>rfl) (by simp only [ZC,ZpI,if_true,if_false, *]<;>rfl) (by rw [ZpV _ _ d67.1,ZpP]) (ZpP _ _ _) (Za4 (ZpS (ZpS (ZpS (ZpS hs2 (hs2.none zh)) f7) f6) f7) _)
   ·have hf2:100000<fu:=by omega
    (repeat' (first | (refine Zee (D:=D67) mixed (by with_reducible first | exact Zab | exact YG Zab | exact YG (YG Zab) | exact YG (YG (YG Zab))) (by decide) (AH.nil.set _ _) (Zqk (Zca _) _ _) ?_) | (refine Zqk (Zca _) _ _) | (simp only [↓Wg,↓XM,↓XN,↓Xz,↓WX,↓Wb,↓Xe,↓Yf,↓Zag,↓JE,↓Zcg,↓Yi,↓Wa,↓Yu,↓Yr,↓XJ,↓Ys,↓XK,↓Yt,↓YS,↓ZC,↓Xb,↓Jh,↓Zah,↓Zbn,↓YA,↓YU,↓Wr,↓Wv,↓Jm,↓Wh,↓Wm,↓WA,↓XA,↓Ji,ZI,ptrV,Zp3,Zqa,Zqb,Zqh,ZqM,Zqw,Zqx,ite_true,ite_false,ZpI,ZpJ,ZpT,true_and,ZqP,Zp7,decide_true,decide_false,Bool.not_false,↓YV,↓YK,↓YL,ZpU,Zqj,ZM,fillV,setAt,Zqn,Zqv,Zqo,eq_self,Zp2,ZpL,ZqE,ZqF,Wi,Zap,XS,We,ZkW,ZkX,YT,Zqs,Zqy,↓Ww,XW,ZpY,XG,XH,Xr,WP,WQ,↓Ws,↓WC,Zp5,ZM,Zh2,YO,ZbX,JW,Zco,ZiS,JP, *]) | (refine ZB fun zr zh=>?_; have zg:=zh; (try simp only [ZpO] at zg); (try have zn_k6:=ZpK k6 zh); (try have zn_k6:=ZpK k6 zg.2); (try have zn_k6:=ZpK k6 zg.2.2); (try have zn_k7:=ZpK k7 zh); (try have zn_k7:=ZpK k7 zg.2); (try have zn_k7:=ZpK k7 zg.2.2); (try have zn_k4:=ZpK k4 zh); (try have zn_k4:=ZpK k4 zg.2); (try have zn_k4:=ZpK k4 zg.2.2)) | (refine ZpS ?_ ?_) | (with_reducible refine And.intro ?_ ?_)))
    exact ZdM (r6:=r6) (r7:=r7) (by simp only [ZC,ZpI,if_true,if_false, *]<;>rfl) (by simp only [ZC,ZpI,if_true,if_false, *]<;>rfl) (by rw [ZpV _ _ d67.1,ZpP]) (ZpP _ _ _) (Za4 (ZpS (ZpS (ZpS (ZpS hs2 (hs2.none zh)) f7) f6) f7) _)
  ·have hF:runF p e fu=endF p (evG p fu (gasOf fu e) 0 0 e [] []):=by unfold runF; rw [if_pos hr,if_neg hfu]
   rw [hF,hr];have hf1:¬ fu<0:=by omega
   have hf2:¬ 100000<fu:=by omega
   replace hT:=ZpM hT;replace hF:=ZpM hF;clear hr
   (repeat' (first | (simp only [↓Zz,ZA,↓ZnV,ZI,ptrV,ZpI,ZpJ,ZpT,setAt,ZpL,YO,ZbX,JW,JP, *]) | (refine ZB fun zr zh=>?_; have zg:=zh; (try simp only [ZpO] at zg); (try have zn_k6:=ZpK k6 zh); (try have zn_k6:=ZpK k6 zg.2); (try have zn_k6:=ZpK k6 zg.2.2); (try have zn_k7:=ZpK k7 zh); (try have zn_k7:=ZpK k7 zg.2); (try have zn_k7:=ZpK k7 zg.2.2); (try have zn_k4:=ZpK k4 zh); (try have zn_k4:=ZpK k4 zg.2); (try have zn_k4:=ZpK k4 zg.2.2))))
   obtain ⟨m1,m2,hab,hT1,hT2⟩:=hT.out;obtain ⟨rfl,rfl⟩:a=some m1∧b=some m2:=by simpa [tabE] using hab
   clear hab;refine ⟨rfl,?_⟩;obtain ⟨H5,hH5⟩:∃ H5,H5=(H'.set zr (.cells 85 [.lit (.map (some m1)),.lit (.map (some m2))] 0)).set r7 (.cells 38 [iV 0] 0):=⟨_,rfl⟩
   show vcL _ [] _ ⟨_,[dfR r6 r7]⟩ ((H'.set zr (.cells 85 [.lit (.map (some m1)),.lit (.map (some m2))] 0)).set r7 (.cells 38 [iV 0] 0));rw [← hH5];have dz6:=ZpK k6 zh;have dz7:=ZpK k7 zh;have dz4:=ZpK k4 zh;have d47:¬ r4=r7:=fun h=>by subst h; rw [k4] at k7; simp at k7
   have q4:H5 r4=some (.cells 35 [iV e.op,sV e.name,encS exE e.kids] 0):=by rw [hH5,ZpV _ _ d47,ZpV _ _ dz4.1]; exact k4
   have q6:H5 r6=some (.cells 37 zR 0):=by rw [hH5,ZpV _ _ d67.1,ZpV _ _ dz6.1]; exact k6
   have q7:H5 r7=some (.cells 38 [iV 0] 0):=by rw [hH5,ZpP]
   have q8:H5 zr=some (.cells 85 [.lit (.map (some m1)),.lit (.map (some m2))] 0):=by rw [hH5,ZpV _ _ dz7.2,ZpP]
   have hT5:TabAt H5 (.agg (tabE m1 m2)) p:=by
    refine ⟨m1,m2,rfl,?_,?_⟩
    ·rw [hH5,ZpV _ _ (JY k7 hT1).2,ZpV _ _ (ZpK hT1 zh).1]; exact hT1
    ·rw [hH5,ZpV _ _ (JY k7 hT2).2,ZpV _ _ (ZpK hT2 zh).1]; exact hT2
   have hs5:SubH H H5:=by rw [hH5]; exact ZpS (ZpS hs2 (hs2.none zh)) f7
   have hev:=fun r H=>ev_ok (Zit hzz.1 hp) (m1:=m1) (m2:=m2) (r:=r) (fu:=fu) (by omega) (gasOf fu e) 0 0 e [] [] H ⟨hzz.2.2,hn,hzz.2.1,⟨rfl,trivial⟩,by omega,by omega⟩ (by unfold gasOf; omega) (by omega) (by omega)
   have hpr:=ZdJ (Zit hzz.1 hp) (fu:=fu) (gasOf fu e) 0 0 e [] [];generalize evG p fu (gasOf fu e) 0 0 e [] []=R at *
   generalize zr=r8 at *
   replace hT5:=ZpM hT5;clear hT hT1 hT2 hF hs2 k4 k6 k7 zh zg hH5 dz6 dz7 dz4
   (repeat' (first | (simp only [↓Zz,ZA,ptrV,ZpI,ZpJ,ZpT,Zp1,ZM,fillV,setAt,ZpL,ZM,YZ,Zg7,stT_93,Zpp, *]) | (refine ZB fun zr zh=>?_; have zg:=zh; (try simp only [ZpO] at zg); (try have zn_q6:=ZpK q6 zh); (try have zn_q6:=ZpK q6 zg.2); (try have zn_q6:=ZpK q6 zg.2.2); (try have zn_q7:=ZpK q7 zh); (try have zn_q7:=ZpK q7 zg.2); (try have zn_q7:=ZpK q7 zg.2.2); (try have zn_q4:=ZpK q4 zh); (try have zn_q4:=ZpK q4 zg.2); (try have zn_q4:=ZpK q4 zg.2.2); (try have zn_q8:=ZpK q8 zh); (try have zn_q8:=ZpK q8 zg.2); (try have zn_q8:=ZpK q8 zg.2.2))))
   have hM6:MacAt p m1 m2 zr fu 0 0 (H5.set zr (mB m1 m2 fu 0 0)):=⟨ZpP _ _ _,hT5.out.mono (ZpR zh)⟩
   have hcl:=hev zr _ hM6;have henv:envC p.funs [] []=.lit (.pointer none):=by rw [Zgg]; rfl
   rw [henv] at hcl;have q6':∀ X,(H5.set zr X) r6=some (.cells 37 zR 0):=fun X=>by rw [ZpV _ _ (ZpK q6 zh).1]; exact q6
   have q7':∀ X,(H5.set zr X) r7=some (.cells 38 [iV 0] 0):=fun X=>by rw [ZpV _ _ (ZpK q7 zh).1]; exact q7
   have hs6:∀ X,SubH H (H5.set zr X):=fun X=>hs5.of_set (hs5.none zh)
   have f5:H5 zr=none:=zh;clear hev henv q4 q8 zh zg hT5 hM6;refine Zhe hcl (fun c v hR=>?_) (fun k c d hR=>?_)
   ·rw [Zqj];obtain ⟨g1,g2,g3⟩:=hpr c v ⟨hzz.2.2,hn,hzz.2.1,⟨rfl,trivial⟩,by omega,by omega⟩ hR;have hF:endF p R=if 5000<(v.ex p).full then (zEx,0,7) else if v.pl=true then (v.ex p,c,0) else (zEx,0,423):=by rw [hR]; rfl
    rw [hF];obtain ⟨o1,o2⟩:=WU p.funs v;obtain ⟨H7,hH7⟩:∃ H7,H7=H5.set zr (mB m1 m2 fu c 0):=⟨_,rfl⟩
    rw [← hH7];have p6:H7 r6=some (.cells 37 zR 0):=by rw [hH7]; exact q6' _
    have p7:H7 r7=some (.cells 38 [iV 0] 0):=by rw [hH7]; exact q7' _
    have p9:H7 zr=some (.cells 93 [.lit (.map (some m1)),.lit (.map (some m2)),iV fu,iV c,iV 0] 0):=by rw [hH7]; exact ZpP _ _ _
    have hs7:SubH H H7:=by rw [hH7]; exact hs6 _
    generalize zr=r9 at *
    clear hcl q6' q7' hs6 hH7 hpr hR hF q6 q7 hs5
    (repeat' (first | (simp only [↓Zz,ZA,ptrV,ZpI,ZpJ,ZM,fillV,setAt,ZM,stT_99,Zpq, *]) | (refine ZB fun zr zh=>?_; have zg:=zh; (try simp only [ZpO] at zg); (try have zn_p6:=ZpK p6 zh); (try have zn_p6:=ZpK p6 zg.2); (try have zn_p6:=ZpK p6 zg.2.2); (try have zn_p7:=ZpK p7 zh); (try have zn_p7:=ZpK p7 zg.2); (try have zn_p7:=ZpK p7 zg.2.2); (try have zn_p9:=ZpK p9 zh); (try have zn_p9:=ZpK p9 zg.2); (try have zn_p9:=ZpK p9 zg.2.2))))
    refine ZeO (Zo6 v.sz v (ZpY _) g1 zr 5000 _ (ZpP _ _ _) (by omega) (by omega)) (fun bl hbl=>?_);rw [Zqj];have s6:∀ X,(H7.set zr X) r6=some (.cells 37 zR 0):=fun X=>by rw [ZpV _ _ zn_p6.1]; exact p6
    have s7:∀ X,(H7.set zr X) r7=some (.cells 38 [iV 0] 0):=fun X=>by rw [ZpV _ _ zn_p7.1]; exact p7
    have s9:∀ X,(H7.set zr X) r9=some (.cells 93 [.lit (.map (some m1)),.lit (.map (some m2)),iV fu,iV c,iV 0] 0):=fun X=>by rw [ZpV _ _ zn_p9.1]; exact p9
    have hs8:∀ X,SubH H (H7.set zr X):=fun X=>hs7.of_set (hs7.none zh)
    obtain ⟨H8,hH8⟩:∃ H8,H8=H7.set zr (tB bl):=⟨_,rfl⟩
    rw [← hH8];have u6:H8 r6=some (.cells 37 zR 0):=by rw [hH8]; exact s6 _
    have u7:H8 r7=some (.cells 38 [iV 0] 0):=by rw [hH8]; exact s7 _
    have u9:H8 r9=some (.cells 93 [.lit (.map (some m1)),.lit (.map (some m2)),iV fu,iV c,iV 0] 0):=by rw [hH8]; exact s9 _
    have ut:H8 zr=some (.cells 99 [iV bl] 0):=by rw [hH8]; exact ZpP _ _ _
    have hsu:SubH H H8:=by rw [hH8]; exact hs8 _
    have d6t:¬ r6=r9:=fun h=>by subst h; rw [u6] at u9; simp at u9
    generalize zr=rt at *
    clear s6 s7 s9 hs8 hH8 p6 p7 p9 hs7 zh zg zn_p6 zn_p7 zn_p9;by_cases h5:5000<(v.ex p).full
    ·have hb:bl<0:=hbl.gt (by omega) (by omega);rw [if_pos h5];clear h5 hbl
     (repeat' (first | (simp only [↓Zz,ZA,vcNil,Xc,ZpI,ZpJ,ZM,fillV,setAt,ZpL,ZM,Xc,ZbJ,Je,ZQ,Zeq, *])))
     show Zcw Tryz.prog _ _ (.panic (stopE 7)) _ _;exact ZkA (by simp only [ZC,ZpI,if_true,if_false, *]<;>rfl) (by simp only [ZC,ZpI,if_true,if_false, *]<;>rfl) u6 u7 d67 f6 f7 hsu
    ·have hb:¬ bl<0:=by have:=hbl.le (by omega) (by omega); omega
     rw [if_neg h5];clear h5 hbl;have hpn:=plain_ok p (v.sz+1) v H8 (ZqK _) g1
     (repeat' (first | (refine Zee (D:=D67) mixed (by with_reducible first | exact Zab | exact YG Zab | exact YG (YG Zab) | exact YG (YG (YG Zab))) (by decide) _ (ZpN _) ?_) | (simp only [↓Wq,↓Wg,↓XM,↓XN,↓WV,↓Wb,↓Xe,↓Yf,↓Yi,↓Yu,↓Yr,↓Ys,↓Yt,↓YS,↓WZ,↓ZC,↓Xb,↓YA,↓Zbx,↓Wr,↓Yb,↓XP,↓XF,↓Wm,vcNil,Zp3,Zqa,Zqw,Zqx,ite_true,ite_false,ZpI,ZpJ,ne_eq,not_false_eq_true,true_and,Zp7,decide_false,↓YK,↓YL,eq_self,Zp2,ZqB,ZpL,Wi,XG,WY,XH,Xr,WO,↓Ws,Je,ZfR,ZQ,en_28, *])))
     refine pl_use hpn (fun hpl=>?_) (fun hpl=>?_)
     ·rw [if_pos hpl];clear hpn
      (repeat' (first | (simp only [↓Zz,ZA,ZpI,ZpJ,ZpT,Zp1,ZM,fillV,setAt,ZM,JW,Zco,ZiS, *]) | (exact ZpN _) | (with_reducible refine And.intro ?_ ?_)))
      exact rn_done (by simp only [ZC,ZpI,if_true,if_false, *]<;>rfl) (by simp only [ZC,ZpI,if_true,if_false, *]<;>rfl) (by rw [ZpV _ _ d67.1,ZpP]) (ZpP _ _ _) (ZpS (ZpS hsu f6) f7)
     ·rw [if_neg (by rw [hpl]; simp)];clear hpn
      (repeat' (first | (simp only [↓Zz, *])))
      exact ZkA (by simp only [ZC,ZpI,if_true,if_false, *]<;>rfl) (by simp only [ZC,ZpI,if_true,if_false, *]<;>rfl) u6 u7 d67 f6 f7 hsu
   ·have hF:endF p R=(zEx,0,k):=by rw [hR]; rfl
    rw [hF,Zqj];clear hcl hpr hR hF
    (repeat' (first | (simp only [↓Zz, *])))
    exact ZkA (by simp only [ZC,ZpI,if_true,if_false, *]<;>rfl) (by simp only [ZC,ZpI,if_true,if_false, *]<;>rfl) (q6' _) (q7' _) d67 f6 f7 (hs6 _)
 ·have hF:runF p e fu=(zEx,0,JZ p e):=by unfold runF; rw [if_neg hr]
  rw [hF];clear hF hT;generalize JZ p e=R at *
  (repeat' (first | (refine Zee (D:=D67) mixed (by with_reducible first | exact Zab | exact YG Zab | exact YG (YG Zab) | exact YG (YG (YG Zab))) (by decide) (AH.nil.set _ _) (Zqk (Zca _) _ _) ?_) | (refine Zqk (Zca _) _ _) | (simp only [↓Wq,↓Wg,↓XM,↓XN,↓Xz,↓WV,↓WX,↓Wb,↓Xe,↓Yf,↓Zag,↓Zcf,Zij,↓Yi,↓Wa,↓Yu,↓Yr,↓XJ,↓Ys,↓XK,↓Yt,↓YS,↓ZC,↓Xb,↓Jh,↓Zah,↓Zbn,↓YA,↓YU,↓Wr,↓Wv,↓Jm,↓Wh,↓XA,↓Ji,ZI,ptrV,Zp3,Zqa,Zqb,Zqh,Zqw,Zqx,ite_true,ite_false,ZpI,ZpJ,ZpT,true_and,ZqP,Zp7,decide_false,Bool.not_false,ZN,ZD,↓YV,↓YK,↓YL,ZpU,Zqj,ZM,fillV,setAt,Zqn,Zqv,Zqo,eq_self,Zp2,ZpL,ZqE,ZqF,Wi,Zap,XS,We,ZkW,ZkX,YT,Zqs,Zqy,↓Ww,XW,ZpY,XG,XH,Xr,WP,WQ,↓Ws,↓WC,undef,ZM,Zh2,YO,ZbX,JW,Zco,ZiS,JP, *]) | (refine ZB fun zr zh=>?_; have zg:=zh; (try simp only [ZpO] at zg); (try have zn_k6:=ZpK k6 zh); (try have zn_k6:=ZpK k6 zg.2); (try have zn_k6:=ZpK k6 zg.2.2); (try have zn_k7:=ZpK k7 zh); (try have zn_k7:=ZpK k7 zg.2); (try have zn_k7:=ZpK k7 zg.2.2); (try have zn_k4:=ZpK k4 zh); (try have zn_k4:=ZpK k4 zg.2); (try have zn_k4:=ZpK k4 zg.2.2)) | (refine ZpS ?_ ?_) | (with_reducible refine And.intro ?_ ?_)))
  exact ZdM (r6:=r6) (r7:=r7) (by simp only [ZC,ZpI,if_true,if_false, *]<;>rfl) (by simp only [ZC,ZpI,if_true,if_false, *]<;>rfl) (by rw [ZpV _ _ d67.1,ZpP]) (ZpP _ _ _) (Za4 (ZpS (ZpS (ZpS (ZpS hs2 (hs2.none zh)) f7) f6) f7) _)
end Go.PV.YtglpmlbbaedbiaaGreat
end
