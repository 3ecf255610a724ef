/- Part 8 of 11 of what the proof of Step needs. -/
import Derived.Test.YtglpmlbbaedbiaaStep5
import Derived.Test.YtglpmlbbaedbiaaStep7
import Derived.Test.YtglpmlbbaedbiaaStep6
set_option linter.unusedVariables false
set_option linter.unusedSimpArgs false
set_option linter.defProp false
section
open Go.PV.AH renaming set_none→Zpb,set_ne→Zpg,set_same→Zpc,ne_of→Zo6,get→Zpf
open Go.PV.Hold renaming mk→Zo8
open Go.PV.PureF renaming forget→ZpF,use→Zpe
open Go.PV.SubH renaming new→Zph,of_set→Zpi,refl→Zpa
open List renaming drop_eq_getElem_cons→ZpI,map_cons→Zpp,getElem_mem→Zpk,drop→Zo9,drop_eq_nil_of_le→ZpC,take_of_length_le→ZpD,drop_zero→ZpV
open Nat renaming reduceEqDiff→Zo5,reduceLT→Zo7,reduceAdd→Zpd,reduceMul→ZpQ,reduceLeDiff→Zpo,le_refl→Zpl
set_option maxRecDepth 20000
set_option maxHeartbeats 4000000
namespace Go.PV.Ytglpmlbbaedbiaa
open Go Go.Proofs
def prSz (p:Pr):Nat:=p.cons.length+fusSz p.funs
theorem Zmj {l:List Fu} {i:Nat} (h:i<l.length):fusSz (l.drop i)=fuSz l[i]+fusSz (l.drop (i+1)):=by
 unfold fusSz; rw [ZpI h,Zpp,List.sum_cons]
theorem small_ok (p:Pr) (n:Int) (hs:prSz p≤1099511627776):PureF Try.prog 24 [prV p,iV n] (boolV (decide ((prSz p:Int)≤n))):=by
 have hl:p.funs.length≤fusSz p.funs:=Zcl Zli p.funs;have hc:∀ i (h:i<p.funs.length),fuSz p.funs[i]≤1099511627776:=fun i h=>by have:=Jz (f:=fuSz) (Zpk h); unfold prSz fusSz at hs; omega
 have hf:∀ i (h:i<p.funs.length),PureF Try.prog 7 [fuV p.funs[i]] (iV (fuSz p.funs[i])):=fun i h=>Zoh _ (hc i h)
 have hp:prSz p=p.cons.length+fusSz p.funs:=rfl;have hlN:p.funs.length≤1099511627776:=by omega
 obtain ⟨N,hN⟩:∃ N,prSz p=N:=⟨_,rfl⟩
 rw [hN] at hs hp ⊢;have hcl:p.cons.length≤1099511627776:=by omega
 clear hN hl;refine ZpF fun H=>?_
 refine ZK fd24 (by simp) ?_;delta c24 Zj Zq Zd Zb Ze Zc;replace hp:=Zo8 hp
 (repeat' (first | (simp only [↓ZF,ZG,ptrV,intV,boolV,Zo5,Zo7,reduceCtorEq,ZJ,Zo9,undef,Zlb,Zlc,ldT_68,ldT_69,Zii,ZmK, *]) | (refine ZH fun zr zh=>?_; have zg:=zh; (try simp only [Zpb] at zg))))
 refine ZY (fun _ _ _ h=>h) (fun A H'=>SubH H H'∧A.d=[]∧A.t 1=iV n∧A.t 12=fusV p.funs∧A.t 13=iV p.funs.length∧∃ (i m:Nat),i≤p.funs.length∧A.t 14=iV i∧A.t 5=iV m∧m+fusSz (p.funs.drop i)=N)
  (fun A _=>match A.t 14 with | .lit (.int _ i)=>((p.funs.length:Int)-i).toNat | _=>0) ?_ ?_
 ·exact ⟨Zph zh,rfl,(by simp only [ZI,Zo5,if_false, *]<;>rfl),(by simp only [ZI,Zo5,if_true,if_false, *]<;>rfl),(by simp only [ZI,Zo5,if_true,if_false, *]<;>rfl),0,p.cons.length,by omega,(by simp only [ZI,Zo5,if_true,if_false, *]<;>rfl),(by simp only [ZI,Zo5,if_true,if_false, *]<;>rfl),hp.out.symm⟩
 ·clear hp;rintro ⟨t,d⟩ H' ⟨hs',rfl,h1,h12,h13,i,m,hi,h14,h5,hm⟩;dsimp only at h1 h12 h13 h14 h5;delta b24_1 Zn Zr Zk Zb Zi Zg Za Zo Zc Zq Zm;by_cases hlt:i<p.funs.length
  ·have hil:(i:Int)<(p.funs.length:Int):=by omega
   have hfi:=hf i hlt;have e1:=Zmj hlt;have e2:=Jg hlt;have hw:IntKind.i64.wrap ((m:Int)+(fuSz p.funs[i]:Int))=(m:Int)+(fuSz p.funs[i]:Int):=ZO (by omega) (by omega);rw [e1] at hm;clear hf hc e1;by_cases hg:n<(m:Int)+(fuSz p.funs[i]:Int)
   ·have hd:decide ((N:Int)≤n)=false:=decide_eq_false (by omega);rw [hd];clear hd hm
    (repeat' (first | (simp only [↓ZF,ZG,ptrV,Zo5,Zo7,Zpd,setAt,Zo9,ZmG,ZmI,Zhz,Zii,en_7, *]) | (refine ZM ?_) | (refine ZH fun zr zh=>?_; have zg:=zh; (try simp only [Zpb] at zg)) | (refine Zpi ?_ ?_) | (exact SubH.none (by assumption) (by assumption)) | (refine Zpe (hfi) ?_)))
   ·replace hm:=Zo8 hm
    (repeat' (first | (simp only [↓ZF,ZG,ptrV,Zo5,Zo7,Zpd,setAt,Zo9,ZmG,ZmI,Zhz,Zii,en_7, *]) | (refine ZH fun zr zh=>?_; have zg:=zh; (try simp only [Zpb] at zg)) | (refine Zpi ?_ ?_) | (exact SubH.none (by assumption) (by assumption)) | (refine Zpe (hfi) ?_) | (with_reducible refine And.intro ?_ ?_)))
    all_goals rw [ZO (n:=(i:Int)+1) (by omega) (by omega)]
    ·exact ⟨i+1,m+fuSz p.funs[i],by omega,rfl,rfl,by have:=hm.out; omega⟩
    ·omega
  ·have hil:¬ (i:Int)<(p.funs.length:Int):=by omega
   rw [ZpC (by omega)] at hm;have hm:m=N:=by simpa [fusSz] using hm
   subst hm
   (repeat' (first | (simp only [↓ZF,ZG,Zo7, *]) | (refine Ya rfl (fun _ _ _ h=>h) ?_)))
   delta c24_1 Za Zn Zc
   (repeat' (first | (simp only [↓ZF,ZG,↓ZfK,Zo5,Zo7, *]) | (refine ZM ?_)))
theorem co_take {l:List Co} {i:Nat} (h:i<l.length):encC coE (l.take (i+1))=encC coE (l.take i)++[sV l[i].name,iV l[i].arity]:=by
 rw [YM h,Yu]; rfl
theorem fu_take {l:List Fu} {i:Nat} (h:i<l.length):encC fuE (l.take (i+1))=encC fuE (l.take i)++[sV l[i].name,iV l[i].arity,clsV l[i].cls]:=by
 rw [YM h,Yu]; rfl
abbrev nilV:VV:=.lit (.slice none 0 0)
theorem prog_ok (p:Pr) (hs:prSz p≤1099511627776):PureF Try.prog 26 [prV p] (prV p):=by
 have hl:p.funs.length≤fusSz p.funs:=Zcl Zli p.funs;have hc:∀ i (h:i<p.funs.length),fuSz p.funs[i]≤1099511627776:=fun i h=>by have:=Jz (f:=fuSz) (Zpk h); unfold prSz fusSz at hs; omega
 have hf:∀ i (h:i<p.funs.length),PureF Try.prog 11 [fuV p.funs[i]] (fuV p.funs[i]):=fun i h=>fun_ok _ (hc i h)
 have hp:prSz p=p.cons.length+fusSz p.funs:=rfl;have hfN:p.funs.length≤1099511627776:=by omega
 have hcN:p.cons.length≤1099511627776:=by omega
 clear hl hc hp hs;refine Wl.pure fun H0=>?_
 refine ZK fd26 (by simp) ?_;delta c26 Zj Zi Zd Zb Ze Zq
 (repeat' (first | (simp only [↓ZF,ZG,ptrV,intV,Zo5,Zo7,reduceCtorEq,ZJ,Zo9,undef,Zlb,ldT_68,zeroT_80,ZmK, *]) | (refine ZH fun zr zh=>?_; have zg:=zh; (try simp only [Zpb] at zg))))
 rename_i r1 n1 n1' r2 n2 n2';obtain ⟨⟨d32,d23⟩,⟨d31,d13⟩,n3⟩:=zg;obtain ⟨⟨d21,d12⟩,n2''⟩:=n2';obtain ⟨B0,hB0⟩:∃ B0,B0=(H0.set r1 (.cells 71 [cosV p.cons,fusV p.funs] 0)).set r2 (.cells 80 [nilV,nilV] 0):=⟨_,rfl⟩
 have q1:B0 r1=some (.cells 71 [cosV p.cons,fusV p.funs] 0):=by rw [hB0,Zpg _ _ d12]; exact Zpc _ _ _
 have hw0:SubH (H0.set r2 (.cells 80 [nilV,nilV] 0)) B0:=by rw [hB0]; exact (Zph n1).set _ _
 rw [← hB0] at zh;rw [← hB0];have hb0:InB B0 (B0.set zr (.cells 80 [nilV,nilV] 0)) zr 80 [] [nilV] 91 2 0 [] nilV _:=InB.start (Zpc _ _ _) (Zph zh) zh;generalize zr=r3 at *
 refine ZY (fun _ _ _ h=>h) (fun A H=>A.d=[]∧A.t 1=ptrV r1 0∧A.t 2=ptrV r2 0∧A.t 3=ptrV r3 0∧A.t 9=cosV p.cons∧A.t 10=iV p.cons.length∧∃ (i:Nat) (v:VV) (Hb:AH),i≤p.cons.length∧A.t 11=iV i∧InB B0 H r3 80 [] [nilV] 91 2 i (encC coE (p.cons.take i)) v Hb)
  (fun A _=>match A.t 11 with | .lit (.int _ i)=>((p.cons.length:Int)-i).toNat | _=>0) ?_ ?_
 ·exact ⟨rfl,(by simp only [ZI,Zo5,if_true,if_false, *]<;>rfl),(by simp only [ZI,Zo5,if_true,if_false, *]<;>rfl),(by simp only [ZI,Zo5,if_true,if_false, *]<;>rfl),(by simp only [ZI,Zo5,if_true,if_false, *]<;>rfl),(by simp only [ZI,Zo5,if_true,if_false, *]<;>rfl),0,_,_,by omega,(by simp only [ZI,Zo5,if_true,if_false, *]<;>rfl),hb0⟩
 ·clear hb0 n2 hB0;rintro ⟨t,d⟩ H ⟨rfl,h1,h2,h3,h9,h10,i,v,Hb,hi,h11,hbl⟩;dsimp only at h1 h2 h3 h9 h10 h11;have q3:=hbl.at;delta b26_1 Zn Zr Zk Zb Zi Zg Zd Zq Zl Zm Za;by_cases hlt:i<p.cons.length
  ·have hil:(i:Int)<(p.cons.length:Int):=by omega
   have e2:=ZdF hlt
   (repeat' (first | (simp only [↓ZF,ZG,ptrV,Zo5,Zo7,Zpd,ZpQ,Zpo,fillV,setAt,Zo9,ZN,ZN,XE,ldT_132,Wr,szT_132,Zn3,ZmK,Zar,Ze1, *]) | (refine ZH fun zr zh=>?_; have zg:=zh; (try simp only [Zpb] at zg); (try have zn_q3:=Zo6 q3 zh); (try have zn_q3:=Zo6 q3 zg.2); (try have zn_q3:=Zo6 q3 zg.2.2))))
   have hb2:=hbl.alloc zg (.cells 132 [sV p.cons[i].name,iV p.cons[i].arity] 0);refine XJ Zar Ze1 rfl (by omega) hb2.own rfl rfl (by omega) (by omega) (fun v' H'' ho=>?_);have hb3:=hb2.next ho;have q3':=ho.sub _ _ hb2.blk;have hc1:=ho.cells.1;have hc2:=ho.cells.2;clear hb2 hbl q3 ho
   (repeat' (first | (simp only [↓ZF,ZG,ptrV,Zo5,Zo7,Zpd,Zpo,setAt,XE,szT_77, *]) | (with_reducible refine And.intro ?_ ?_)))
   all_goals rw [ZO (n:=(i:Int)+1) (by omega) (by omega)]
   ·rw [← co_take hlt] at hb3;exact ⟨i+1,v',_,by omega,rfl,hb3⟩
   ·omega
  ·have hil:¬ (i:Int)<(p.cons.length:Int):=by omega
   (repeat' (first | (simp only [↓ZF,ZG,ptrV,Zo7, *])))
   have hin:i=p.cons.length:=by omega
   subst hin;rw [ZpD (Zpl _)] at hbl;have d13':=none_ne q1 hbl.new;refine JY (hbl.ghost _ _) ?_;clear hbl q3 h9 h10 h11;show ACx _ _ _ _ (B0.set r3 (.cells 80 [cosV p.cons,nilV] 0));have q1':(B0.set r3 (.cells 80 [cosV p.cons,nilV] 0)) r1=some (.cells 71 [cosV p.cons,fusV p.funs] 0):=by rw [Zpg _ _ (fun e=>d13' e.symm)]; exact q1
   delta c26_2 Zd Zb Ze Zq;refine Ya rfl (fun _ _ _ h=>h) ?_
   (repeat' (first | (simp only [↓ZF,ZG,ptrV,intV,Zo5,Zo7,reduceCtorEq,Zo9,Zlc,ldT_69,Zii, *])))
   have hn3:(H0.set r2 (.cells 80 [nilV,nilV] 0)) r3=none:=by rw [Zpf,if_neg d32]; exact n3
   have hb0:InB (H0.set r2 (.cells 80 [nilV,nilV] 0)) (B0.set r3 (.cells 80 [cosV p.cons,nilV] 0)) r3 80 [cosV p.cons] [] 40 3 0 [] nilV _ :=
    InB.start (Zpc _ _ _) (hw0.trans (Zph zh)) hn3
   refine ZY (fun _ _ _ h=>h) (fun A H=>A.d=[]∧A.t 2=ptrV r2 0∧A.t 3=ptrV r3 0∧A.t 23=fusV p.funs∧A.t 24=iV p.funs.length∧∃ (i:Nat) (v:VV) (Hb:AH),i≤p.funs.length∧A.t 25=iV i∧InB (H0.set r2 (.cells 80 [nilV,nilV] 0)) H r3 80 [cosV p.cons] [] 40 3 i (encC fuE (p.funs.take i)) v Hb)
    (fun A _=>match A.t 25 with | .lit (.int _ i)=>((p.funs.length:Int)-i).toNat | _=>0) ?_ ?_
   ·exact ⟨rfl,(by simp only [ZI,Zo5,if_false, *]<;>rfl),(by simp only [ZI,Zo5,if_false, *]<;>rfl),(by simp only [ZI,Zo5,if_true,if_false, *]<;>rfl),(by simp only [ZI,Zo5,if_true,if_false, *]<;>rfl),0,_,_,by omega,(by simp only [ZI,Zo5,if_true,if_false, *]<;>rfl),hb0⟩
   ·clear hb0 h1 h2 h3 q1' q1 hw0 hn3 hi;rintro ⟨t,d⟩ H ⟨rfl,h2,h3,h23,h24,i,v,Hb,hi,h25,hbl⟩;dsimp only at h2 h3 h23 h24 h25;have q3:=hbl.at;have q2:=hbl.cell2;delta b26_2 Zn Zr Zk Zb Zi Zg Zd Zo Zq Zl Zm Za;by_cases hlt:i<p.funs.length
    ·have hil:(i:Int)<(p.funs.length:Int):=by omega
     have e2:=Jg hlt;have hfi:=hf i hlt
     (repeat' (first | (simp only [↓ZF,ZG,ptrV,Zo5,Zo7,Zpd,ZpQ,Zpo,fillV,setAt,Zo9,ZN,ZN,WX,ZmG,ZbL,ZmI,Zhz,Zii,ZaH,ZcR,en_11, *]) | (refine ZR mixed (fun _ _ _ _ e h=>⟨e.trans h.1,h.2⟩) _ (Zpa _) ?_) | (refine ZH fun zr zh=>?_; have zg:=zh; (try simp only [Zpb] at zg); (try have zn_q3:=Zo6 q3 zh); (try have zn_q3:=Zo6 q3 zg.2); (try have zn_q3:=Zo6 q3 zg.2.2)) | (exact Zpa _) | (refine Zpe (hfi) ?_) | (with_reducible refine And.intro ?_ ?_)))
     have hb2:=hbl.alloc zg (.cells 24 [sV p.funs[i].name,iV p.funs[i].arity,clsV p.funs[i].cls] 0);refine XJ ZaH ZcR rfl (by omega) hb2.own rfl rfl (by omega) (by omega) (fun v' H'' ho=>?_);have hb3:=hb2.next ho;have q3':=ho.sub _ _ hb2.blk;have hc1:=ho.cells.1;have hc2:=ho.cells.2;clear hb2 hbl q3 q2 ho
     (repeat' (first | (simp only [↓ZF,ZG,ptrV,Zo5,Zo7,Zpd,setAt,WX,szT_78, *]) | (with_reducible refine And.intro ?_ ?_)))
     all_goals rw [ZO (n:=(i:Int)+1) (by omega) (by omega)]
     ·rw [← fu_take hlt] at hb3;exact ⟨i+1,v',_,by omega,rfl,hb3⟩
     ·omega
    ·have hil:¬ (i:Int)<(p.funs.length:Int):=by omega
     have hin:i=p.funs.length:=by omega
     subst hin;rw [ZpD (Zpl _)] at hbl;have hc1:=hbl.own.cells.1;have hc2:=hbl.own.cells.2
     (repeat' (first | (simp only [↓ZF,ZG,ptrV,Zo7, *])))
     delta c26_1 Zb Zg
     (repeat' (first | (simp only [↓ZF,ZG,ptrV,Zo5,Zo7,Zpd,setAt,Zo9,Zbk,szT_80, *]) | (refine Ya rfl (fun _ _ _ h=>h) ?_)))
     refine ZcU Zbk (by simp only [ZI,Zo5,if_false, *]<;>rfl) (Zpc _ _ _) (by rw [ZpV]; exact Zkl _ _ _) ?_;exact ⟨_,rfl,GhV.agg (hbl.ret n2'' _)⟩
end Go.PV.Ytglpmlbbaedbiaa
end
section
open List renaming map_cons→Zpp,length_cons→Zpx
open Nat renaming le_refl→Zpl
set_option maxRecDepth 20000
namespace Go.PV.Ytglpmlbbaedbiaa
open Go Go.Proofs Go.ChangeShapes Go.WideShapes Go.RowKit
def coWt (c:Co):Nat:=c.name.size+3
def prWt (p:Pr):Nat:=(p.cons.map coWt).sum+(p.funs.map fuWt).sum+3
theorem rdCo (n:Nat):RdN n Try.prog 132 coE (fun _=>True) coWt:=by
 cases n with
 | zero=>exact JO
 | succ n =>
   refine ZdJ (fun p:ByteArray × Int × Unit=>(⟨p.1,p.2.1⟩:Co)) (JU (tot:=2) Try.underlying132 (by kernel_rfl) (YZ (k:=1) rfl (by kernel_rfl) (Zcd Try.underlying9) (YZ (k:=1) rfl (by kernel_rfl) (ZjU Try.underlying3) (ZaQ 2)))) ?_ (fun _ _=>trivial) ?_
   ·intro p; rfl
   ·intro p; show p.1.size+3≤_; omega
theorem rdPr (n:Nat):RdN n Try.prog 71 (fun p:Pr=>[cosV p.cons,fusV p.funs]) (fun _=>True) prWt:=by
 cases n with
 | zero=>exact JO
 | succ n =>
   have hs:RdN n Try.prog 68 (fun l:List Co=>[encS coE l]) (fun l=>∀ a∈l,True) (fun l=>(l.map coWt).sum+1):=JV (k:=2) Try.underlying68 (by kernel_rfl) (by omega) (fun i hi=>rdCo i) (fun _=>rfl);have hf:RdN n Try.prog 69 (fun l:List Fu=>[encS fuE l]) (fun l=>∀ a∈l,True) (fun l=>(l.map fuWt).sum+1):=JV (k:=3) Try.underlying69 (by kernel_rfl) (by omega) (fun i hi=>rdFu i) (fun _=>rfl);refine ZdJ (fun p:List Co × List Fu × Unit=>(⟨p.1,p.2.1⟩:Pr)) (JU (tot:=2) Try.underlying71 (by kernel_rfl) (YZ (k:=1) rfl (by kernel_rfl) hs (YZ (k:=1) rfl (by kernel_rfl) hf (ZaQ 2)))) ?_ (fun _ _=>trivial) ?_
   ·intro p; rfl
   ·intro p; show (p.1.map coWt).sum+(p.2.1.map fuWt).sum+3≤_; omega
theorem Zfd {α:Type} {f:α→Nat} (h:∀ x,0<f x):∀ l:List α,l.length≤(l.map f).sum
 | []=>Zpl _
 | x::l=>by have:=Zfd h l; have:=h x; simp only [Zpp,List.sum_cons,Zpx]; omega
theorem Ex.nmOk_wt:∀ e:Ex,e.wt≤1099511627776→e.nmOk:=by
 refine Ex.ind (p:=fun e=>e.wt≤1099511627776→e.nmOk) (fun e ih h=>?_);have hw:e.wt=4+e.name.size+exsWt e.kids:=by cases e; rw [Ex.wt]; rfl
 refine Ex.nmOk_iff.2 ⟨by omega,fun k hk=>ih k hk ?_⟩;have h1:=Jz (f:=Ex.wt) hk;rw [ZhI] at hw;omega
theorem Pa.wt_eq (e:Pa):e.wt=4+e.name.size+pasWt e.kids:=by cases e; rw [Pa.wt]; rfl
mutual
theorem Pa.all_wt:∀ (p:Pa) (a:Int),∀ x∈p.all a,x.1.wt≤p.wt
 | .mk c n ks,a,x,h=>by
   rw [Pa.all] at h;rcases List.mem_cons.1 h with rfl | h
   ·exact Zpl _
   ·have:=Zi7 ks _ x h
    rw [Pa.wt]; omega
theorem Zi7:∀ (l:List Pa) (a:Int),∀ x∈XH l a,x.1.wt≤pasWt l
 | [],a,x,h=>by simp [XH] at h
 | p::l,a,x,h=>by
   rw [XH] at h;rw [pasWt];rcases List.mem_append.1 h with h | h
   ·have:=Pa.all_wt p a x h; omega
   ·have:=Zi7 l a x h; omega
end
theorem Zou {l:List Pa} {q:Pa} (h:q∈l):q.wt≤pasWt l:=by rw [Ze9]; exact Jz h
theorem cl_ok {c:Cl} (h:clWt c≤1048576):ClOk c∧∀ s∈ZV c.pats,s.size≤1048576:=by
 have h4:clWt c=pasWt c.pats+c.body.wt+2:=rfl;have h1:=Zfa c.pats;have h2:=c.body.sz_wt;refine ⟨⟨by omega,fun q hq x hx=>?_,by omega,c.body.nmOk_wt (by omega)⟩,fun s hs=>?_⟩
 ·have:=Zou hq
  have:=Pa.all_wt q 0 x hx
  have:=x.1.wt_eq
  omega
 ·have:=ZcJ c.pats s hs; omega
theorem clWt_pos (c:Cl):0<clWt c:=by unfold clWt; omega
theorem coWt_pos (c:Co):0<coWt c:=by unfold coWt; omega
theorem fuWt_pos (f:Fu):0<fuWt f:=by unfold fuWt; omega
theorem pr_ok {p:Pr} (h:prWt p≤1048576):InOk p∧prSz p≤1048576∧p.cons.length≤1048576∧p.funs.length≤1048576:=by
 have h0:prWt p=(p.cons.map coWt).sum+(p.funs.map fuWt).sum+3:=rfl;have c1:=Zfd coWt_pos p.cons;have f1:=Zfd fuWt_pos p.funs;have hc:∀ c∈p.cons,c.name.size≤1048576:=fun c hc=>by have:=Jz (f:=coWt) hc; have h:coWt c=c.name.size+3:=rfl; omega
 have hf:∀ f∈p.funs,fuWt f≤1048576:=fun f hf=>by have:=Jz (f:=fuWt) hf; omega
 have hfn:∀ f∈p.funs,f.name.size≤1048576:=fun f hf'=>by have:=hf f hf'; have h:fuWt f=f.name.size+(f.cls.map clWt).sum+4:=rfl; omega
 have hcl:∀ f∈p.funs,∀ c∈f.cls,clWt c≤1048576:=fun f hf' c hc'=>by have:=hf f hf'; have h:fuWt f=f.name.size+(f.cls.map clWt).sum+4:=rfl; have:=Jz (f:=clWt) hc'; omega
 have hcn:∀ f∈p.funs,f.cls.length≤1048576:=fun f hf'=>by have:=hf f hf'; have h:fuWt f=f.name.size+(f.cls.map clWt).sum+4:=rfl; have:=Zfd clWt_pos f.cls; omega
 have h5:(1048576:Nat)≤maxLen:=by decide
 refine ⟨⟨⟨by omega,by omega,fun c h=>by have:=hc c h; omega,fun f h=>by have:=hfn f h; omega,fun f h=>⟨by have:=hcn f h; omega,fun c h'=>(cl_ok (hcl f h c h')).1⟩⟩,fun f h=>by have:=ZnD f; have:=hf f h; omega,fun f h c h' s hs=>by have:=(cl_ok (hcl f h c h')).2 s hs; omega⟩,
  ?_,by omega,by omega⟩
 have:fusSz p.funs≤(p.funs.map fuWt).sum:=ZmT ZnD p.funs
 unfold prSz; omega
end Go.PV.Ytglpmlbbaedbiaa
end
section
open Nat renaming le_refl→Zpl
set_option maxRecDepth 20000
namespace Go.PV.Ytglpmlbbaedbiaa
open Go Go.Proofs
inductive Val where
 | built (n:ByteArray) (ks:List Val)
 | clo (x:ByteArray) (b:Ex) (ns:List ByteArray) (vs:List Val)
 | part (j:Nat) (us:List Val)
def Val.kids:Val→List Val
 | .built _ ks=>ks
 | .clo _ _ _ vs=>vs
 | .part _ us=>us
mutual
def Val.sz:Val→Nat
 | .built _ ks=>1+JI ks
 | .clo _ _ _ vs=>1+JI vs
 | .part _ us=>1+JI us
def JI:List Val→Nat
 | []=>0
 | v::l=>v.sz+JI l
end
theorem Val.sz_eq (v:Val):v.sz=1+JI v.kids:=by cases v<;>rfl
theorem JX {v:Val}:∀ {l:List Val},v∈l→v.sz≤JI l
 | k::l,h=>by
   rw [JI];rcases List.mem_cons.1 h with rfl | h
   ·omega
   ·have:=JX h; omega
theorem Val.ind {q:Val→Prop} (h:∀ v:Val,(∀ k∈v.kids,q k)→q v) (v:Val):q v:=by
 have:∀ n (v:Val),v.sz≤n→q v:=by
  intro n
  induction n with
  | zero=>intro v hv; have:=v.sz_eq; omega
  | succ n ih=>intro v hv; exact h v fun k hk=>ih k (by have:=JX hk; have:=v.sz_eq; omega)
 exact this v.sz v (Zpl _)
mutual
def Val.vv (fs:List Fu):Val→VV
 | .built n ks=>.iface 161 (.agg [sV n,.slice false ks.length (valsC fs ks)])
 | .clo x b ns vs=>.iface 155 (.agg [iV 5,sV x,encS exE [b],envC fs vs ns])
 | .part j us=>.iface 158 (.agg [.iptr ((encC fuE fs).drop (j * 3)),.slice false us.length (valsC fs us)])
def valsC (fs:List Fu):List Val→List VV
 | []=>[]
 | v::l=>v.vv fs::valsC fs l
def envC (fs:List Fu):List Val→List ByteArray→VV
 | v::vs,n::ns=>.iptr [sV n,v.vv fs,envC fs vs ns]
 | _,_=>nilP
end
abbrev valE (fs:List Fu) (v:Val):List VV:=[v.vv fs]
theorem ZhO (fs:List Fu):∀ l:List Val,valsC fs l=encC (valE fs) l
 | []=>rfl
 | v::l=>by rw [valsC,Yh,ZhO fs l]; rfl
abbrev vsV (fs:List Fu) (l:List Val):VV:=encS (valE fs) l
theorem ZbT (fs:List Fu) (n:ByteArray) (ks:List Val):(Val.built n ks).vv fs=.iface 161 (.agg [sV n,vsV fs ks]):=by rw [Val.vv,ZhO]
theorem Zgr (fs:List Fu) (x:ByteArray) (b:Ex) (ns:List ByteArray) (vs:List Val):(Val.clo x b ns vs).vv fs=.iface 155 (.agg [iV 5,sV x,encS exE [b],envC fs vs ns]):=by rw [Val.vv]
theorem Zco (fs:List Fu) (j:Nat) (us:List Val):(Val.part j us).vv fs=.iface 158 (.agg [.iptr ((encC fuE fs).drop (j * 3)),vsV fs us]):=by rw [Val.vv,ZhO]
theorem ZcV {fs:List Fu} {l:List Val} {i:Nat} (hi:i<l.length):(encC (valE fs) l).drop i=l[i].vv fs::encC (valE fs) (l.drop (i+1)):=ZaZ (enc:=fun v:Val=>v.vv fs) hi
mutual
def Val.nd:Val→Int
 | .built _ ks=>1+XN ks
 | .clo _ _ _ _=>1
 | .part _ us=>match us with
   | []=>1
   | a::l=>2+(a.nd+XN l)
def XN:List Val→Int
 | []=>0
 | v::l=>v.nd+XN l
end
mutual
def Val.ok (p:Pr):Val→Prop
 | .built _ ks=>ks.length≤5000∧YO p ks
 | .clo x b ns vs=>(ns.length=vs.length∧(Ex.mk 5 x [b]).sdF p ns=0∧b.sz≤5000∧b.nmOk∧x.size≤1099511627776)∧YO p vs
 | .part j us=>(j<p.funs.length∧us.length≤1099511627776∧(us.length:Int)<(match p.funs[j]? with | some f=>f.arity | none=>0))∧YO p us
def YO (p:Pr):List Val→Prop
 | []=>True
 | v::l=>v.ok p∧YO p l
end
theorem Xa {p:Pr}:∀ {l:List Val},YO p l↔∀ v∈l,v.ok p
 | []=>by simp [YO]
 | v::l=>by rw [YO,Xa (l:=l)]; simp
theorem WC {p:Pr} {l m:List Val}:YO p (l++m)↔YO p l∧YO p m:=by
 simp only [Xa,List.mem_append];exact ⟨fun h=>⟨fun v hv=>h v (.inl hv),fun v hv=>h v (.inr hv)⟩,fun h v hv=>hv.elim (h.1 v) (h.2 v)⟩
def findV:List ByteArray→List Val→ByteArray→Option Val
 | n::ns,v::vs,s=>if n=s then some v else findV ns vs s
 | _,_,_=>none
abbrev Env:=List ByteArray × List Val
mutual
def Pa.mtV:Pa→Val→Env→Env × Bool
 | .mk con n ks,v,e=>if con=true then (match v with
    | .built m us=>if m=n∧us.length=ks.length then YW ks us e else (e,false)
    | _=>(e,false)) else ((n::e.1,v::e.2),true)
def YW:List Pa→List Val→Env→Env × Bool
 | k::ks,u::us,e=>if (k.mtV u e).2=true then YW ks us (k.mtV u e).1 else ((k.mtV u e).1,false)
 | _,_,e=>(e,true)
end
def Wn:List Cl→List Val→Option (Ex × Env)
 | [],_=>none
 | c::cs,us=>if (YW c.pats us ([],[])).2=true then some (c.body,(YW c.pats us ([],[])).1) else Wn cs us
def cntV (fu c d:Int) (us:List Val):Except Int Int:=if 5000<IntKind.i64.wrap (XN us) then .error 7 else if c=fu then .error 8 else if 2000≤d then .error 6 else .ok (c+1)
abbrev EvR:=Except Int (Int × Val)
abbrev EvL:=Except Int (Int × List Val)
abbrev EvF:=Int→Int→Ex→List ByteArray→List Val→EvR
def arAt (p:Pr) (j:Nat):Int:=match p.funs[j]? with | some f=>f.arity | none=>0
section
variable (p:Pr) (fu:Int) (ev:EvF)
def callG (c d:Int) (j:Nat) (us:List Val):EvR:=match cntV fu c d us with
 | .error k=>.error k
 | .ok c1=>match p.funs[j]? with
   | some f=>match Wn f.cls us with
     | none=>.error 420
     | some (b,e)=>ev c1 (d+1) b e.1 e.2
   | none=>.error 0
def appG:Nat→Int→Int→Val→List Val→EvR
 | 0,c,_,v,us=>if us.length=0 then .ok (c,v) else .error 0
 | n+1,c,d,v,us=>match us with
   | []=>.ok (c,v)
   | a::ar=>match v with
     | .built _ _=>.error 421
     | .clo x b ns vs=>match cntV fu c d [a] with
       | .error k=>.error k
       | .ok c1=>match ev c1 (d+1) b (x::ns) (a::vs) with
         | .error k=>.error k
         | .ok (c2,w)=>appG n c2 d w ar
     | .part j hs=>if (us.length:Int)<arAt p j-hs.length then .ok (c,.part j (hs++us)) else
        match callG p fu ev c d j (hs++us.take (arAt p j-hs.length).toNat) with
        | .error k=>.error k
        | .ok (c2,w)=>appG n c2 d w (us.drop (arAt p j-hs.length).toNat)
def listG (d:Int) (ns:List ByteArray) (vs:List Val):Int→List Ex→EvL
 | c,[]=>.ok (c,[])
 | c,k::ks=>match ev c d k ns vs with
   | .error k=>.error k
   | .ok (c',v)=>(match listG d ns vs c' ks with
     | .error k=>.error k
     | .ok (c'',l)=>.ok (c'',v::l))
end
def evG (p:Pr) (fu:Int):Nat→EvF
 | 0=>fun _ _ _ _ _=>.error 0
 | g+1=>fun c d e ns vs =>
   if e.op=1 then (match findV ns vs e.name with | some v=>.ok (c,v) | none=>.error 0)
   else if e.op=5 then .ok (c,.clo e.name (e.kids.headD zEx) ns vs)
   else if e.op=2 then (if 0<arFu p.funs e.name then .ok (c,.part (atFu p.funs e.name).toNat []) else callG p fu (evG p fu g) c d (atFu p.funs e.name).toNat [])
   else match listG (evG p fu g) d ns vs c e.kids with
    | .error k=>.error k
    | .ok (c',l)=>if e.op=3 then .ok (c',.built e.name l) else match l with
      | v::l=>appG p fu (evG p fu g) l.length c' d v l
      | []=>.error 0
end Go.PV.Ytglpmlbbaedbiaa
end
section
open Nat renaming ble→Zpq
namespace Go.PV
open Go
def methV (P:Program) (t:TypeId) (name:String):Option (Bool × Option (FuncId × Bool)) :=
 match P.info? t with
 | some i=>(match i.methods.find? (·.name == name) with | some m=>some (m.path.toList.isEmpty,m.func) | none=>none)
 | none=>none
def noPtr (P:Program) (t:TypeId):Bool:=match P.underlying t with | some (.pointer _)=>false | some _=>true | none=>false
theorem run_meth {P:Program} {t:TypeId} {name:String} {f:FuncId} {fuel:Nat} (hn:Zpq 1 fuel=true) (hm:methV P t name=some (true,some (f,false))) (hu:noPtr P t=true) (z:Value) (w:World) :
 (method fuel t z name).run P w=.ok (f,z) w:=by
 cases fuel with
 | zero=>cases hn
 | succ n =>
   unfold methV at hm;split at hm
   ·rename_i i hi;split at hm
    ·rename_i m hm1;simp only [Option.some.injEq,Prod.mk.injEq] at hm;obtain ⟨hp,hf⟩:=hm;have hp':m.path.toList=[]:=by simpa using hp
     unfold noPtr at hu;split at hu
     ·cases hu
     ·rename_i d hnp hd
      have hr:∀ wr,(receiverAt t (.val z) false wr).run P w=.ok z w:=by
       intro wr;unfold receiverAt;rw [Sem.run_bind,run_underlying hd];cases d<;>first | (exact absurd rfl (hnp _)) | simp [Place.get]
      unfold method;simp [typeInfo,hi,hm1,hp',follow,hf,hr]
     ·cases hu
    ·cases hm
   ·cases hm
theorem Zm0 {P:Program} {g:Nat} {t:TypeId} {m:String} {y:VV} {xs:List VV} {ro:Option Nat} {H:AH} {K:VE→AH→Prop} (hn:Zpq 1 (P.types.size+Made.depth)=true) (hm:methV P t m=some (true,some (g,false))) (hu:noPtr P t=true) (he:ZL P g=true) (h:ZU P g (y::xs) H K):Zfp P ro (.iface t y) m xs H K :=
 ⟨g,y,he,h,fun S w u hu'=>by obtain ⟨v,rfl,hv⟩:=hu'; exact ⟨v,hv,t,v,rfl,run_meth hn hm hu v w⟩⟩
end Go.PV
end
section
open Go.PV.AH renaming set_none→Zpb
open Go.PV.Hold renaming mk→Zo8
open Go.PV.PureF renaming forget→ZpF,use→Zpe
open Go.PV.SubH renaming refl→Zpa,of_set→Zpi,new→Zph
open List renaming drop→Zo9,cons_append→Zp6,getElem_mem→Zpk,take_of_length_le→ZpD
open Nat renaming reduceLT→Zo7,reduceEqDiff→Zo5
set_option maxRecDepth 20000
set_option maxHeartbeats 4000000
namespace Go.PV.Ytglpmlbbaedbiaa
open Go Go.Proofs
abbrev nilI:VV:=.lit .nilIface
def optV (fs:List Fu):Option Val→VV
 | none=>nilI
 | some v=>v.vv fs
abbrev EnvO:=List (ByteArray × Option Val)
def eoC (fs:List Fu):EnvO→VV
 | []=>nilP
 | (n,o)::l=>.iptr [sV n,optV fs o,eoC fs l]
def eoF:EnvO→ByteArray→Option Val
 | [],_=>none
 | (n,o)::l,s=>if n=s then o else eoF l s
def eoOf:List ByteArray→List Val→EnvO
 | n::ns,v::vs=>(n,some v)::eoOf ns vs
 | _,_=>[]
theorem Zfv (fs:List Fu):∀ (vs:List Val) (ns:List ByteArray),envC fs vs ns=eoC fs (eoOf ns vs)
 | [],ns=>by cases ns<;>simp [envC,eoOf,eoC]
 | v::vs,[]=>by simp [envC,eoOf,eoC]
 | v::vs,n::ns=>by rw [envC,Zfv fs vs ns]; rfl
theorem eoF_of:∀ (ns:List ByteArray) (vs:List Val) (s:ByteArray),eoF (eoOf ns vs) s=findV ns vs s
 | [],vs,s=>by cases vs<;>rfl
 | n::ns,[],s=>rfl
 | n::ns,v::vs,s=>by
   show (if n=s then some v else eoF (eoOf ns vs) s)=if n=s then some v else findV ns vs s
   rw [eoF_of ns vs s]
theorem Wt (fs:List Fu) (v:Val):(v.vv fs).cells=[v.vv fs]∧VV.one (v.vv fs)=true:=by cases v<;>(simp only [Val.vv]; exact ⟨rfl,rfl⟩)
theorem optV_one (fs:List Fu) (o:Option Val):(optV fs o).cells=[optV fs o]∧VV.one (optV fs o)=true:=by
 cases o with
 | none=>exact ⟨rfl,rfl⟩
 | some v=>exact Wt fs v
theorem Zhc (fs:List Fu) (l:EnvO):(eoC fs l).cells=[eoC fs l]∧VV.one (eoC fs l)=true:=by
 cases l with
 | nil=>exact ⟨rfl,rfl⟩
 | cons x l=>exact ⟨rfl,rfl⟩
theorem neq_iptr {P:Program} {t e:TypeId} {ox:Operand} {c:Value} {cs:List VV} {H:AH} {K:VE→AH→Prop} (hu:P.underlying t=some (.pointer e)):vcBin P .neq t ox (.const c) (.iptr cs) nilP H K=K (.ret (boolV true)) H:=by
 unfold vcBin;simp only [Yw];exact propext ⟨fun h=>h.2.2 _ rfl,fun h=>⟨⟨e,hu⟩,.inr (.inl rfl),fun b hb=>by rw [show b=false from hb]; exact h⟩⟩
theorem ZnM {ox:Operand} {c:Value} {cs:List VV} {H:AH} {K:VE→AH→Prop}:vcBin Try.prog .neq 150 ox (.const c) (.iptr cs) nilP H K=K (.ret (boolV true)) H:=neq_iptr (e:=180) (by kernel_rfl)
theorem neq_scN {ox:Operand} {c:Value} {H:AH} {K:VE→AH→Prop}:vcBin Try.prog .neq 150 ox (.const c) nilP nilP H K=K (.ret (boolV false)) H:=ZnF (a:=none) (e:=180) (by kernel_rfl)
theorem ZnN (fs:List Fu) (l:EnvO) (s:ByteArray):PureF Try.prog 62 [eoC fs l,sV s] (optV fs (eoF l s)):=by
 refine ZpF fun H0=>?_
 refine ZK fd62 (by simp) ?_;delta c62 Zq;obtain ⟨R,hR⟩:∃ R,R=eoF l s:=⟨_,rfl⟩
 rw [← hR];replace hR:=Zo8 hR
 (repeat' (first | (simp only [↓ZF,ZG,Zo7,ZJ,undef, *])))
 refine ZfQ (fun _ _ _ h=>h) (fun n A H=>SubH H0 H∧A.d=[]∧A.t 1=sV s∧∃ l':EnvO,l'.length=n∧A.t 0=eoC fs l'∧R=eoF l' s) (n0:=l.length) ⟨Zpa _,rfl,(by simp only [ZI,Zo5,if_false, *]<;>rfl),l,rfl,(by simp only [ZI,Zo5,if_false, *]<;>rfl),hR.out⟩ ?_;clear hR;rintro n ⟨t,d⟩ H ⟨hsb,rfl,h1,l',hn,h0,hR⟩ Rr hrr;dsimp only at h1 h0;delta b62_1 Za Zq Zr Zd Zb Zn Zc;cases l' with
 | nil =>
   have hR:R=none:=hR;subst hR;replace h0:t 0=nilP:=h0;clear hrr
   (repeat' (first | (simp only [↓ZF,ZG,boolV,Zo7,neq_scN, *]) | (refine Ya rfl (fun _ _ _ h=>h) ?_)))
   delta c62_1 Zq
   (repeat' (first | (simp only [↓ZF,ZG,Zo5,Zo7, *]) | (refine ZM ?_)))
   all_goals first
    | rfl
    | exact hsb
 | cons x l' =>
   obtain ⟨m,o⟩:=x;replace h0:t 0=.iptr [sV m,optV fs o,eoC fs l']:=h0;obtain ⟨o1,o2⟩:=optV_one fs o;obtain ⟨o3,o4⟩:=Zhc fs l';by_cases hm:m=s
   ·have hR2:R=o:=by rw [hR]; show (if m=s then _ else _)=_; rw [if_pos hm]
    clear hR;subst hR2;clear hrr
    (repeat' (first | (simp only [↓ZF,ZG,↓ZaP,vcNil,boolV,Zo5,Zo7,reduceCtorEq,Zo9,ZnM,ZiJ,Zn8,Ym,Jw, *]) | (refine ZM ?_)))
   ·have hR2:R=eoF l' s:=by rw [hR]; show (if m=s then _ else _)=_; rw [if_neg hm]
    clear hR;replace hR:=Zo8 hR2;clear hR2;replace hn:=Zo8 hn;replace hrr:=Zo8 hrr
    (repeat' (first | (simp only [↓ZF,ZG,↓ZaP,vcNil,boolV,Zo5,Zo7,reduceCtorEq,Zo9,ZnM,ZiJ,Zn9,Ym,Zdv, *])))
    exact hrr.out l'.length _ _ (by rw [← hn.out]; simp) ⟨hsb,rfl,(by simp only [ZI,Zo5,if_false, *]<;>rfl),l',rfl,(by simp only [ZI,Zo5,if_true,if_false, *]<;>rfl),hR.out⟩
theorem wrap_add (a b:Int):IntKind.i64.wrap (IntKind.i64.wrap a+IntKind.i64.wrap b)=IntKind.i64.wrap (a+b):=by simp only [IntKind.wrap_i64]; omega
abbrev ndM:String := "triforium/evaluate.nodes"
theorem en_ndb:ZL Try.prog 134=true:=by kernel_rfl
theorem en_ndc:ZL Try.prog 132=true:=by kernel_rfl
theorem en_ndp:ZL Try.prog 133=true:=by kernel_rfl
theorem ZkN {l:List Val} {i:Nat} (h:i<l.length):XN (l.take (i+1))=XN (l.take i)+l[i].nd:=by
 have hsn:∀ (l:List Val) (v:Val),XN (l++[v])=XN l+v.nd:=fun l v=>by
  induction l with
  | nil=>simp [XN]
  | cons x l ih=>rw [Zp6,XN,ih,XN]; omega
 rw [YM h,hsn]
def NdAt (fs:List Fu) (v:Val):Prop:=∀ (ro:Option Nat) (H:AH) (K:VE→AH→Prop),K (.ret (iV (IntKind.i64.wrap v.nd))) H→Zfp Try.prog ro (v.vv fs) ndM [] H K
theorem ZhP {fs:List Fu} {l:List Val} (hl:l.length≤1099511627776) (hn:∀ v∈l,NdAt fs v):PureF Try.prog 102 [vsV fs l] (iV (IntKind.i64.wrap (XN l))):=by
 refine ZpF fun H0=>?_
 refine ZK fd102 (by simp) ?_;delta c102 Zf Za Ze Zq
 (repeat' (first | (simp only [↓ZF,ZG,intV,Zo5,Zo7,reduceCtorEq,ZJ,undef,YA, *])))
 refine ZY (fun _ _ _ h=>h) (fun A H=>SubH H0 H∧A.d=[]∧A.t 6=vsV fs l∧A.t 7=iV l.length∧∃ i:Nat,i≤l.length∧A.t 8=iV i∧A.t 3=iV (IntKind.i64.wrap (XN (l.take i))))
  (fun A _=>match A.t 8 with | .lit (.int _ i)=>((l.length:Int)-i).toNat | _=>0) ?_ ?_
 ·exact ⟨Zpa _,rfl,(by simp only [ZI,Zo5,if_true,if_false, *]<;>rfl),(by simp only [ZI,Zo5,if_true,if_false, *]<;>rfl),0,by omega,(by simp only [ZI,Zo5,if_true,if_false, *]<;>rfl),by simp only [ZI,Zo5,if_true,if_false]; rfl⟩
 ·rintro ⟨t,d⟩ H ⟨hsb,rfl,h6,h7,i,hi,h8,h3⟩;dsimp only at h6 h7 h8 h3;delta b102_1 Zn Zr Zk Zb Zc Za Zq Zm;by_cases hlt:i<l.length
  ·have hil:(i:Int)<(l.length:Int):=by omega
   have hv:=hn _ (Zpk hlt);have e2:=ZcV (fs:=fs) hlt;obtain ⟨o1,o2⟩:=Wt fs l[i];have hw:IntKind.i64.wrap (IntKind.i64.wrap (XN (l.take i))+IntKind.i64.wrap l[i].nd)=IntKind.i64.wrap (XN (l.take (i+1))):=by rw [wrap_add,ZkN hlt]
   clear hn;replace hv:=Zo8 hv
   (repeat' (first | (simp only [↓ZF,ZG,↓s_callI,Zo5,Zo7,Jw,YA, *]) | (refine hv.out _ _ _ ?_) | (with_reducible refine And.intro ?_ ?_)))
   all_goals rw [ZO (n:=(i:Int)+1) (by omega) (by omega)]
   ·exact ⟨i+1,by omega,rfl,rfl⟩
   ·omega
  ·have hil:¬ (i:Int)<(l.length:Int):=by omega
   rw [ZpD (by omega)] at h3
   (repeat' (first | (simp only [↓ZF,ZG,Zo7, *])))
   delta c102_1 Za Zc
   (repeat' (first | (simp only [↓ZF,ZG,Zo5,Zo7, *]) | (refine ZM ?_) | (refine Ya rfl (fun _ _ _ h=>h) ?_)))
theorem ndb_ok {fs:List Fu} {n:ByteArray} {ks:List Val} (h:PureF Try.prog 102 [vsV fs ks] (iV (IntKind.i64.wrap (XN ks)))):PureF Try.prog 134 [.agg [sV n,vsV fs ks]] (iV (IntKind.i64.wrap (1+XN ks))):=by
 refine ZpF fun H0=>?_
 refine ZK fd134 (by simp) ?_;delta c134 Zj Zf Zd Zb Zo Zr Zq Zc;have hw:IntKind.i64.wrap (1+IntKind.i64.wrap (XN ks))=IntKind.i64.wrap (1+XN ks):=by simp only [IntKind.wrap_i64]; omega
 (repeat' (first | (simp only [↓ZF,ZG,ptrV,Zo5,Zo7,ZJ,Zo9,undef,JZ,Je,ZeT, *]) | (refine ZM ?_) | (refine ZH fun zr zh=>?_; have zg:=zh; (try simp only [Zpb] at zg)) | (exact Zpa _) | (refine Zpi ?_ ?_) | (refine Zpe (h) ?_)))
 all_goals first
  | rfl
  | exact Zph (by assumption)
theorem ndc_ok (y:VV) (hy:∃ a b c d,y=.agg [a,b,c,d]):PureF Try.prog 132 [y] (iV 1):=by
 obtain ⟨a,b,c,d,rfl⟩:=hy;refine ZpF fun H0=>?_
 refine ZK fd132 (by simp) ?_;delta c132 Zj Zf
 (repeat' (first | (simp only [↓ZF,ZG,ptrV,Zo7,ZJ,undef, *]) | (refine ZM ?_) | (refine ZH fun zr zh=>?_; have zg:=zh; (try simp only [Zpb] at zg)) | (exact Zpa _) | (refine Zpi ?_ ?_)))
 all_goals first
  | rfl
  | exact Zph (by assumption)
theorem ndp_ok {fs:List Fu} {x:VV} {us:List Val} {X:Int} (hx:∃ cs,x=.iptr cs) (hX0:us.length=0→X=1) (hX:X=IntKind.i64.wrap (2+IntKind.i64.wrap (XN us))∨us.length=0) (h:PureF Try.prog 102 [vsV fs us] (iV (IntKind.i64.wrap (XN us)))):PureF Try.prog 133 [.agg [x,vsV fs us]] (iV X):=by
 obtain ⟨cs,rfl⟩:=hx;refine ZpF fun H0=>?_
 refine ZK fd133 (by simp) ?_;delta c133 Zj Zf Zd Zb Ze Zm Zr Zo Zq Zc;by_cases h0:us.length=0
 ·have h0':(us.length:Int)=0:=by omega
  obtain rfl:=hX0 h0;clear hX0 hX h0
  (repeat' (first | (simp only [↓ZF,ZG,ptrV,intV,Zo5,Zo7,reduceCtorEq,ZJ,Zo9,undef,ZaJ,Je,YA, *]) | (refine ZM ?_) | (refine ZH fun zr zh=>?_; have zg:=zh; (try simp only [Zpb] at zg)) | (exact Zpa _) | (refine Zpi ?_ ?_)))
  all_goals first
   | rfl
   | exact Zph (by assumption)
 ·have h0':¬ (us.length:Int)=0:=by omega
  have hw:=(hX.resolve_right h0).symm;clear hX0 hX h0
  (repeat' (first | (simp only [↓ZF,ZG,ptrV,intV,Zo5,Zo7,reduceCtorEq,ZJ,Zo9,undef,ZaJ,Je,YA,ZeT, *]) | (refine ZM ?_) | (refine ZH fun zr zh=>?_; have zg:=zh; (try simp only [Zpb] at zg)) | (exact Zpa _) | (refine Zpi ?_ ?_) | (refine Zpe (h) ?_)))
  all_goals first
   | rfl
   | exact Zph (by assumption)
theorem Zov (fs:List Fu) (p:Pr) (v:Val):v.ok p→NdAt fs v:=by
 refine Val.ind (q:=fun v=>v.ok p→NdAt fs v) (fun v ih hv=>?_) v;intro ro H K hK;cases v with
 | built n ks =>
   obtain ⟨h1,h2⟩:=hv;rw [ZbT];exact Zm0 (by kernel_rfl) (by kernel_rfl) (by kernel_rfl) en_ndb ((ndb_ok (ZhP (Nat.le_trans h1 (by decide)) (fun k hk=>ih k hk (Xa.1 h2 k hk)))).use hK)
 | clo x b ns vs =>
   rw [Zgr];exact Zm0 (by kernel_rfl) (by kernel_rfl) (by kernel_rfl) en_ndc ((ndc_ok _ ⟨_,_,_,_,rfl⟩).use hK)
 | part j us =>
   obtain ⟨h1,h2⟩:=hv;rw [Zco];refine Zm0 (by kernel_rfl) (by kernel_rfl) (by kernel_rfl) en_ndp ((ndp_ok ⟨_,rfl⟩ (fun h=>?_) ?_ (ZhP h1.2.1 (fun k hk=>ih k hk (Xa.1 h2 k hk)))).use hK)
   ·cases us with
    | nil=>rw [Val.nd]; rfl
    | cons a l=>simp at h
   ·cases us with
    | nil=>exact .inr rfl
    | cons a l=>left; simp only [Val.nd,IntKind.wrap_i64,XN]; omega
theorem total_ok (fs:List Fu) {p:Pr} {l:List Val} (hl:l.length≤1099511627776) (h:YO p l):PureF Try.prog 102 [vsV fs l] (iV (IntKind.i64.wrap (XN l))):=ZhP hl fun v hv=>Zov fs p v (Xa.1 h v hv)
end Go.PV.Ytglpmlbbaedbiaa
end
section
open Go.PV.AH renaming del_ne→Zpz,set_none→Zpb,set_same→Zpc,ne_of→Zo6
open Go.PV.GhL renaming cons→Zpn
open Go.PV.GhV renaming forget→ZpB,refl→Zpt
open Go.PV.Hold renaming mk→Zo8
open Go.PV.PureF renaming use→Zpe
open Go.PV.SubH renaming refl→Zpa,of_set→Zpi,new→Zph
open List renaming drop→Zo9,drop_eq_getElem_cons→ZpI,getElem_mem→Zpk
open Nat renaming reduceEqDiff→Zo5,reduceLT→Zo7,reduceAdd→Zpd,reduceLeDiff→Zpo
open Option renaming bind_some→ZpH,map_some→Zps
set_option maxRecDepth 20000
set_option maxHeartbeats 4000000
namespace Go.PV.Ytglpmlbbaedbiaa
open Go Go.Proofs
theorem GhV.ptrN {H H0:AH} {r:Nat} {e:TypeId} {cs:List VV} {sp:Nat} (hr:H r=some (.cells e cs sp)) (hn:H0 r=none) (hs:SubH H0 H):GhV H (ptrV r 0) H0 (.iptr cs):=by
 refine (GhV.ptr hr).trans (ZpB (fun i b hb=>?_) _);have hne:i ≠ r:=fun h=>by rw [h,hn] at hb; cases hb
 rw [Zpz _ hne];exact hs i b hb
def stopE (c:Int):List PanicEntry:=[{ v:=.iface 119 (.agg #[.int .i64 c]),recovered:=false }]
theorem Za6:WW Try.prog 119=true:=by kernel_rfl
def mC (m1 m2:Nat) (fu c d:Int):List VV:=[.lit (.map (some m1)),.lit (.map (some m2)),iV fu,iV c,iV d]
abbrev mB (m1 m2:Nat) (fu c d:Int):Blk:=.cells 123 (mC m1 m2 fu c d) 0
theorem Zhd {fs:List Fu} {p:Pr} {us:List Val} {r m1 m2:Nat} {fu c d:Int} {H:AH} {K:VE→AH→Prop} (hl:us.length≤1099511627776) (hu:YO p us) (hm:H r=some (mB m1 m2 fu c d)) (hc:0≤c∧c≤1099511627776)
 (h1:∀ c',cntV fu c d us=.ok c'→c'=c+1→K (.ret (.tuple [])) (H.set r (mB m1 m2 fu c' d))) (h2:∀ k c',cntV fu c d us=.error k→K (.pan (stopE k)) (H.set r (mB m1 m2 fu c' d))):ZU Try.prog 83 [ptrV r 0,vsV fs us] H K:=by
 have ht:=total_ok fs hl hu;have hw:IntKind.i64.wrap (c+1)=c+1:=ZO (by omega) (by omega);have hself:H.set r (mB m1 m2 fu c d)=H:=by funext i; simp only [AH.set]; split<;>simp_all
 refine ZK fd83 (by simp) ?_;delta c83 Za Zo Zr Zm Zc Zq Zd Zb Zn Zg;unfold cntV at h1 h2;unfold mB mC at hm;replace hself:=Zo8 hself;generalize IntKind.i64.wrap (XN us)=n at *
 by_cases hn:5000<n
 ·have hk:=h2 7 c (if_pos hn);rw [hself.out] at hk;clear h1 h2;replace hk:=Zo8 hk
  (repeat' (first | (simp only [↓ZF,ZG,YN,ptrV,Zo5,Zo7,ZJ,ZQ,fillV,setAt,undef,ZQ,YN,Za6,Zbu,ZeT, *]) | (refine Zpe (ht) ?_)))
  show YP Try.prog [] K (.panic (stopE 7)) _ _;exact ⟨rfl,_,Zpa _,hk.out⟩
 ·by_cases he:c=fu
  ·have hk:=h2 8 c (by rw [if_neg hn,if_pos he]);rw [hself.out] at hk;clear h1 h2;replace hk:=Zo8 hk
   (repeat' (first | (simp only [↓ZF,ZG,vcNil,YN,ptrV,Zo5,Zo7,reduceCtorEq,ZJ,ZQ,fillV,setAt,Zo9,undef,ZQ,YN,Za6,Zc4,ZfH,Yg,Zbu,ZeT, *]) | (refine ZR mixed (fun _ _ _ _ e h=>⟨e.trans h.1,h.2⟩) _ (Zpa _) ?_) | (refine Zpe (ht) ?_)))
   show YP Try.prog [] K (.panic (stopE 8)) _ _;exact ⟨rfl,_,Zpa _,hk.out⟩
  ·by_cases hd:2000≤d
   ·have hk:=h2 6 (c+1) (by rw [if_neg hn,if_neg he,if_pos hd]);clear h1 h2;replace hk:=Zo8 hk
    (repeat' (first | (simp only [↓ZF,ZG,vcNil,YN,ptrV,Zo5,Zo7,Zpd,Zpo,reduceCtorEq,ZJ,ZQ,fillV,setAt,Zo9,undef,ZQ,YN,Za6,Zc4,ZfH,Zda,Yg,Zc5,Zbu,ZeT, *]) | (refine ZR mixed (fun _ _ _ _ e h=>⟨e.trans h.1,h.2⟩) _ (Zpa _) ?_) | (refine Zpe (ht) ?_)))
    show YP Try.prog [] K (.panic (stopE 6)) _ _;exact ⟨rfl,_,Zpa _,hk.out⟩
   ·have hk:=h1 (c+1) (by rw [if_neg hn,if_neg he,if_neg hd]) rfl;clear h1 h2;replace hk:=Zo8 hk
    (repeat' (first | (simp only [↓ZF,ZG,vcNil,ptrV,Zo5,Zo7,Zpd,Zpo,reduceCtorEq,ZJ,setAt,Zo9,undef,Zc4,ZfH,Zda,Yg,Zc5,ZeT, *]) | (refine ZR mixed (fun _ _ _ _ e h=>⟨e.trans h.1,h.2⟩) _ (Zpa _) ?_) | (refine Zpe (ht) ?_)))
    exact ⟨rfl,_,_,_,rfl,.refl _ _,hk.out⟩
abbrev envV (fs:List Fu) (e:Env):VV:=envC fs e.2 e.1
def mtR (fs:List Fu) (x:Env × Bool):VV:=.tuple [envV fs x.1,boolV x.2]
theorem Jm (fs:List Fu) (vs:List Val) (ns:List ByteArray):(envC fs vs ns).cells=[envC fs vs ns]∧VV.one (envC fs vs ns)=true:=by rw [Zfv]; exact Zhc fs _
theorem as_b {y:VV} {H:AH} {K:VE→AH→Prop}:Xs Try.prog (.iface 161 y) 161 true H K=K (.ret (.tuple [y,boolV true])) H:=propext ⟨fun h=>h.2,fun h=>⟨by kernel_rfl,h⟩⟩
theorem asN {t u:TypeId} {y:VV} {z:Value} {H:AH} {K:VE→AH→Prop} (hn:WW Try.prog t=true) (hz:zeroV Try.prog t=some z) (hne:¬ u=t):Xs Try.prog (.iface u y) t true H K=K (.ret (.tuple [.lit z,boolV false])) H:=by
 unfold Xs;simp only [if_neg hne,hn,hz,true_and,okV,if_true]
theorem as_bc {y:VV} {H:AH} {K:VE→AH→Prop}:Xs Try.prog (.iface 155 y) 161 true H K=K (.ret (.tuple [.lit (.agg #[(.string ⟨#[]⟩),(.slice none 0 0)]),boolV false])) H:=asN (by kernel_rfl) (by kernel_rfl) (by decide)
theorem Zo2 {y:VV} {H:AH} {K:VE→AH→Prop}:Xs Try.prog (.iface 158 y) 161 true H K=K (.ret (.tuple [.lit (.agg #[(.string ⟨#[]⟩),(.slice none 0 0)]),boolV false])) H:=asN (by kernel_rfl) (by kernel_rfl) (by decide)
theorem zc_b:VV.cells (.lit (.agg #[(.string ⟨#[]⟩),(.slice none 0 0)]))=[.lit (.string ⟨#[]⟩),.lit (.slice none 0 0)]:=rfl
theorem Pa.mtV_eq (k:Pa) (v:Val) (e:Env):k.mtV v e=if k.con=true then (match v with
 | .built m us=>if m=k.name∧us.length=k.kids.length then YW k.kids us e else (e,false)
 | _=>(e,false)) else ((k.name::e.1,v::e.2),true):=by cases k; cases v<;>rw [Pa.mtV]<;>first | rfl | (intro m us h; cases h)
theorem Zf8 {ps:List Pa} {us:List Val} {e:Env} {i:Nat} (h:i<ps.length) (h':i<us.length):YW (ps.drop i) (us.drop i) e=if (ps[i].mtV us[i] e).2=true then YW (ps.drop (i+1)) (us.drop (i+1)) (ps[i].mtV us[i] e).1 else ((ps[i].mtV us[i] e).1,false):=by
 rw [ZpI h,ZpI h',YW]
theorem Zgs {fs:List Fu} {x:Env × Bool} {H0 H:AH} {t:Nat→VV} (h6:t 6=envV fs x.1) (h7:t 7=boolV x.2) (hs:SubH H0 H):YP Try.prog [.tmp 6,.tmp 7] (fun e H'=>∃ y,e=.ret y∧GhV H' y H0 (mtR fs x)) .ret ⟨t,[]⟩ H :=
 YD rfl (by simp only [resV,Xi,Xh,h6,h7,ZpH,Zps,tupV]<;>rfl) ⟨_,rfl,ZpB hs _⟩
theorem Zmk (fs:List Fu) (p:Pr):∀ (n:Nat) (k:Pa) (v:Val) (e:Env),k.sz<n→k.sz≤1099511627776→v.ok p→PureF Try.prog 84 [paV k,v.vv fs,envV fs e] (mtR fs (k.mtV v e)):=by
 intro n
 induction n with
 | zero=>intro k v e h; omega
 | succ n ih =>
   intro k v e h0 hs hv;have z1:=k.sz_eq;have hkl:=XG k.kids;obtain ⟨e1,e2⟩:=Jm fs e.2 e.1;obtain ⟨w1,w2⟩:=Wt fs v;refine Wl.pure fun H0=>?_
   refine ZK fd84 (by simp) ?_;delta c84 Zj Zq Zd Zb Zr Za Zc Zh Zi Zg Zp Ze;rw [k.mtV_eq];by_cases hc:k.con=true
   ·rw [if_pos hc];cases v with
    | clo x b ns vs =>
      rw [Zgr] at w1 w2 ⊢
      (repeat' (first | (simp only [↓ZF,ZG,ZP,ptrV,boolV,Zo5,Zo7,Zpd,Yb,ZJ,setAt,Zo9,undef,as_bc,zc_b,WY,Zc3,ZaT,Jb, *]) | (refine ZH fun zr zh=>?_; have zg:=zh; (try simp only [Zpb] at zg))))
      all_goals exact Zgs (by simp only [ZI,Zo5,if_true,if_false, *]<;>rfl) (by simp only [ZI,Zo5,if_true,if_false, *]<;>rfl) (by repeat (first | assumption | exact Zpa _ | refine Zpi ?_ (by simp only [*])))
    | part j us =>
      rw [Zco] at w1 w2 ⊢
      (repeat' (first | (simp only [↓ZF,ZG,ZP,ptrV,boolV,Zo5,Zo7,Zpd,Yb,ZJ,setAt,Zo9,undef,Zo2,zc_b,WY,Zc3,ZaT,Jb, *]) | (refine ZH fun zr zh=>?_; have zg:=zh; (try simp only [Zpb] at zg))))
      all_goals exact Zgs (by simp only [ZI,Zo5,if_true,if_false, *]<;>rfl) (by simp only [ZI,Zo5,if_true,if_false, *]<;>rfl) (by repeat (first | assumption | exact Zpa _ | refine Zpi ?_ (by simp only [*])))
    | built m us =>
      rw [ZbT] at w1 w2 ⊢;obtain ⟨hul,hu⟩:=hv;by_cases hm:m=k.name
      ·by_cases hk:us.length=k.kids.length
       ·dsimp only;rw [if_pos ⟨hm,hk⟩];obtain ⟨R,hR⟩:∃ R,R=YW k.kids us e:=⟨_,rfl⟩
        rw [← hR];replace hR:=Zo8 hR;have ih':∀ i (h:i<k.kids.length) (h':i<us.length) (e:Env),PureF Try.prog 84 [paV k.kids[i],us[i].vv fs,envV fs e] (mtR fs (k.kids[i].mtV us[i] e)):=fun i h h' e=>ih _ _ e (by have:=Xd (Zpk h); omega) (by have:=Xd (Zpk h); omega) (Xa.1 hu _ (Zpk h'))
        clear ih hu;have hkN:k.kids.length≤1099511627776:=by omega
        clear hs z1 hkl h0
        (repeat' (first | (simp only [↓ZF,ZG,↓XZ,ZP,ptrV,intV,boolV,Zo5,Zo7,Zpd,reduceCtorEq,ZJ,setAt,Zo9,undef,as_b,JZ,WY,Wb,Zc7,XD,Je,Zc3,Ym,Wi,ZaT,Jb,Xl,YA, *]) | (refine ZH fun zr zh=>?_; have zg:=zh; (try simp only [Zpb] at zg))))
        rename_i r1 n1 n1';have z2:=zg.2
        refine ZY (fun _ _ _ h=>h) (fun A H'=>(SubH H0 H'∧H' zr=some (.cells 161 [sV k.name,vsV fs us] 0))∧A.d=[]∧A.t 8=ptrV zr 0∧A.t 46=encS paE k.kids∧A.t 47=iV k.kids.length∧∃ (i:Nat) (m:Env),i≤k.kids.length∧A.t 48=iV i∧A.t 2=envV fs m∧R=YW (k.kids.drop i) (us.drop i) m)
         (fun A _=>match A.t 48 with | .lit (.int _ i)=>((k.kids.length:Int)-i).toNat | _=>0) ?_ ?_
        ·exact ⟨⟨(Zph n1).of_set z2,Zpc _ _ _⟩,rfl,(by simp only [ZI,Zo5,if_true,if_false, *]<;>rfl),(by simp only [ZI,Zo5,if_true,if_false, *]<;>rfl),(by simp only [ZI,Zo5,if_true,if_false, *]<;>rfl),0,e,by omega,(by simp only [ZI,Zo5,if_true,if_false, *]<;>rfl),(by simp only [ZI,Zo5,if_false, *]<;>rfl),hR.out⟩
        ·clear hR e1 e2 w1 w2;rintro ⟨t,d⟩ H' ⟨⟨hs0,q8⟩,rfl,h8,h46,h47,i,m,hi,h48,h2,hR⟩;dsimp only at h8 h46 h47 h48 h2;generalize zr=r8 at *
         clear n1' zg zh z2 n1;delta b84_1 Zn Zr Za Zk Zb Zi Zc Zg Zd Zo Zh Zq Zm;by_cases hlt:i<k.kids.length
         ·have hlt':i<us.length:=by omega
          rw [Zf8 hlt hlt'] at hR;have hil:(i:Int)<(k.kids.length:Int):=by omega
          have hil':(i:Int)<(us.length:Int):=by omega
          have hcl:=ih' i hlt hlt' m;have hd1:=ZcV (fs:=fs) hlt';obtain ⟨w1,w2⟩:=Wt fs us[i];generalize k.kids[i].mtV us[i] m=r at *
          obtain ⟨m',b'⟩:=r;obtain ⟨e1,e2⟩:=Jm fs m'.2 m'.1;obtain ⟨e3,e4⟩:=Jm fs m.2 m.1;clear ih' hm hk hc;unfold mtR at hcl;cases b' with
          | true =>
            replace hR:=Zo8 hR
            (repeat' (first | (simp only [↓ZF,ZG,ZP,ptrV,boolV,Zo5,Zo7,Zpd,setAt,Zo9,WM,JZ,XB,Je,Jw,Zcs,WE,Xl,YA,ZlR, *]) | (refine ZR mixed (fun _ _ _ _ e h=>⟨e.trans h.1,h.2⟩) _ (Zpa _) ?_) | (refine ZH fun zr zh=>?_; have zg:=zh; (try simp only [Zpb] at zg); (try have zn_q8:=Zo6 q8 zh); (try have zn_q8:=Zo6 q8 zg.2); (try have zn_q8:=Zo6 q8 zg.2.2)) | (exact Zpa _) | (refine Zpi ?_ ?_) | (exact SubH.none (by assumption) (by assumption)) | (refine Zpe (hcl) ?_) | (with_reducible refine And.intro ?_ ?_)))
            all_goals rw [ZO (n:=(i:Int)+1) (by omega) (by omega)]
            ·exact ⟨i+1,m',by omega,rfl,rfl,by rw [hR.out]; rfl⟩
            ·omega
          | false =>
            have hR:R=(m',false):=by rw [hR]; rfl
            rw [hR];clear hR
            (repeat' (first | (simp only [↓ZF,ZG,ZP,ptrV,boolV,Zo5,Zo7,Zpd,setAt,Zo9,WM,JZ,XB,Je,Jw,Zcs,WE,Xl,YA,ZlR, *]) | (refine ZR mixed (fun _ _ _ _ e h=>⟨e.trans h.1,h.2⟩) _ (Zpa _) ?_) | (refine ZH fun zr zh=>?_; have zg:=zh; (try simp only [Zpb] at zg); (try have zn_q8:=Zo6 q8 zh); (try have zn_q8:=Zo6 q8 zg.2); (try have zn_q8:=Zo6 q8 zg.2.2)) | (exact Zpa _) | (refine Zpe (hcl) ?_) | (with_reducible refine And.intro ?_ ?_)))
            all_goals exact Zgs (by simp only [ZI,Zo5,if_true,if_false, *]<;>rfl) (by simp only [ZI,Zo5,if_true,if_false, *]<;>rfl) (hs0.of_set (hs0.none zh))
         ·have hil:¬ (i:Int)<(k.kids.length:Int):=by omega
          rw [List.drop_of_length_le (by omega)] at hR;have hR:R=(m,true):=by rw [hR]; cases us.drop i<;>rfl
          rw [hR]
          (repeat' (first | (simp only [↓ZF,ZG,ptrV,Zo7, *])))
          delta c84_1 Za Zc Zq
          (repeat' (first | (simp only [↓ZF,ZG,Zo5,Zo7, *]) | (refine Ya rfl (fun _ _ _ h=>h) ?_)))
          all_goals exact Zgs (by simp only [ZI,Zo5,if_true,if_false, *]<;>rfl) (by simp only [ZI,Zo5,if_true,if_false, *]<;>rfl) hs0
       ·have hk':¬ (us.length:Int)=(k.kids.length:Int):=by omega
        dsimp only;rw [if_neg (fun h=>hk h.2)]
        (repeat' (first | (simp only [↓ZF,ZG,↓XZ,ZP,ptrV,intV,boolV,Zo5,Zo7,Zpd,reduceCtorEq,ZJ,setAt,Zo9,undef,as_b,JZ,WY,Wb,Zc7,XD,Je,Zc3,Ym,Wi,ZaT,Jb,Xl,YA, *]) | (refine ZH fun zr zh=>?_; have zg:=zh; (try simp only [Zpb] at zg))))
        all_goals exact Zgs (by simp only [ZI,Zo5,if_true,if_false, *]<;>rfl) (by simp only [ZI,Zo5,if_true,if_false, *]<;>rfl) (by repeat (first | assumption | exact Zpa _ | refine Zpi ?_ (by simp only [*])))
      ·dsimp only;rw [if_neg (fun h=>hm h.1)]
       (repeat' (first | (simp only [↓ZF,ZG,↓XZ,ZP,ptrV,boolV,Zo5,Zo7,Zpd,Yb,ZJ,setAt,Zo9,undef,as_b,WY,Wb,Zc7,Zc3,Ym,ZaT,Jb, *]) | (refine ZH fun zr zh=>?_; have zg:=zh; (try simp only [Zpb] at zg))))
       all_goals exact Zgs (by simp only [ZI,Zo5,if_true,if_false, *]<;>rfl) (by simp only [ZI,Zo5,if_true,if_false, *]<;>rfl) (by repeat (first | assumption | exact Zpa _ | refine Zpi ?_ (by simp only [*])))
   ·have hc':k.con=false:=by simpa using hc
    rw [if_neg hc]
    (repeat' (first | (simp only [↓ZF,ZG,ptrV,Zo5,Zo7,Zpd,Zpo,ZJ,ZQ,fillV,setAt,Zo9,undef,ZQ,WY,Wb,Zc3,Ym,ZjM, *]) | (refine ZH fun zr zh=>?_; have zg:=zh; (try simp only [Zpb] at zg))))
    rename_i r1 n1 n1';refine YD rfl (x:=.tuple [ptrV zr 0,boolV true]) (by simp only [resV,Xi,Xh,ZI,Zo5,if_true,if_false,ZpH,Zps,tupV]<;>rfl) ⟨_,rfl,?_⟩;refine GhV.tuple (Zpn ?_ (Zpn (Zpt _ _) (GhL.nil _)));show GhV _ _ _ (.iptr [sV k.name,v.vv fs,envV fs e]);exact GhV.ptrN (Zpc _ _ _) zg.2 ((Zph n1).of_set zg.2)
end Go.PV.Ytglpmlbbaedbiaa
end
section
open List renaming mem_of_getElem?→Zqh,getElem_mem→Zpk,getElem?_eq_getElem→ZpP,length_append→Zpy,length_take→ZpX,length_drop→Zp7
namespace Go.PV.Ytglpmlbbaedbiaa
open Go Go.Proofs
def EnvOk (p:Pr) (e:Env):Prop:=e.1.length=e.2.length∧YO p e.2
mutual
theorem Pa.mtV_ok {p:Pr}:∀ (k:Pa) (v:Val) (e:Env),v.ok p→EnvOk p e→EnvOk p (k.mtV v e).1∧((k.mtV v e).2=true→(k.mtV v e).1.1=k.names.reverse++e.1)
 | .mk con n ks,v,e,hv,he=>by
   obtain ⟨X,hX⟩:∃ X,X=(Pa.mk con n ks).mtV v e:=⟨_,rfl⟩
   rw [← hX];rw [Pa.mtV_eq] at hX;cases con with
   | true =>
     rw [if_pos (show (Pa.mk true n ks).con=true from rfl)] at hX;have hN:(Pa.mk true n ks).names=ZV ks:=by simp [Pa.names]
     rw [hN];cases v with
     | built m us =>
       by_cases h:m=(Pa.mk true n ks).name∧us.length=(Pa.mk true n ks).kids.length
       ·rw [show X=YW ks us e from hX.trans (if_pos h)];exact Zdg ks us e h.2 hv.2 he
       ·rw [show X=(e,false) from hX.trans (if_neg h)]; exact ⟨he,fun h=>by cases h⟩
     | clo x b ns vs=>rw [hX]; exact ⟨he,fun h=>by cases h⟩
     | part j us=>rw [hX]; exact ⟨he,fun h=>by cases h⟩
   | false =>
     rw [if_neg (show ¬ (Pa.mk false n ks).con=true from fun h=>by cases h)] at hX;have hN:(Pa.mk false n ks).names=[n]:=by simp [Pa.names]
     rw [show X=((n::e.1,v::e.2),true) from hX,hN];exact ⟨⟨by simpa using he.1,hv,he.2⟩,fun _=>rfl⟩
theorem Zdg {p:Pr}:∀ (ks:List Pa) (us:List Val) (e:Env),us.length=ks.length→YO p us→EnvOk p e→EnvOk p (YW ks us e).1∧((YW ks us e).2=true→(YW ks us e).1.1=(ZV ks).reverse++e.1)
 | [],[],e,hl,hu,he=>by rw [YW.eq_2 _ _ _ (fun _ _ _ _ h=>by cases h)]; exact ⟨he,fun _=>by simp [ZV]⟩
 | [],u::us,e,hl,hu,he=>by simp at hl
 | k::ks,[],e,hl,hu,he=>by simp at hl
 | k::ks,u::us,e,hl,hu,he=>by
   obtain ⟨h1,h2⟩:=Pa.mtV_ok k u e hu.1 he;rw [YW];split
   ·rename_i h;obtain ⟨h3,h4⟩:=Zdg ks us (k.mtV u e).1 (by simpa using hl) hu.2 h1;refine ⟨h3,fun hb=>?_⟩;rw [h4 hb,h2 h,ZV];simp
   ·exact ⟨h1,fun h=>by cases h⟩
end
structure PgR (p:Pr):Prop where
 nd:NdP p
 nf:p.funs.length≤1099511627776
 ar:∀ f∈p.funs,0≤f.arity∧f.arity≤10
 cls:∀ f∈p.funs,f.cls.length≤1099511627776∧∀ c∈f.cls,(c.pats.length:Int)=f.arity∧pasSz c.pats≤1099511627776∧c.body.sdF p (ZV c.pats)=0∧c.body.sz≤1000∧c.body.nmOk
theorem ZhQ {p:Pr} (h:Jh p=0) (hp:PrOk p):PgR p:=⟨ZhK h,hp.funs,fun f hf=>by
 obtain ⟨_,_,h3,_⟩:=Za5 h;obtain ⟨k,hk,rfl⟩:=List.getElem_of_mem hf;have h4:=h3 k hk;unfold ZbR at h4
 repeat' split at h4
 all_goals first
  | (exact absurd h4 (by decide))
  | omega,fun f hf=>⟨(hp.cls f hf).1,fun c hc=>by
 obtain ⟨_,_,_,h4⟩:=Za5 h;have h5:=(Zen (JW h4 f hf c hc)).1;obtain ⟨b1,b2,b3⟩:=(ZhN h hp f hf).body c hc;exact ⟨h5,((hp.cls f hf).2 c hc).pats,b1,b2,b3⟩⟩⟩
structure Zbp (p:Pr) (fu c:Int) (e:Ex) (ns:List ByteArray) (vs:List Val):Prop where
 sd:e.sdF p ns=0
 nm:e.nmOk
 sz:e.sz≤5000
 env:EnvOk p (ns,vs)
 c0:0≤c
 cf:c≤fu
theorem Zi8 {p:Pr} {us:List Val} (hu:YO p us):∀ {cs:List Cl} {b:Ex} {e:Env},(∀ c∈cs,us.length=c.pats.length)→Wn cs us=some (b,e)→∃ c∈cs,b=c.body∧EnvOk p e∧e.1=(ZV c.pats).reverse
 | [],b,e,_,h=>by cases h
 | c::cs,b,e,hl,h=>by
   obtain ⟨h1,h2⟩:=Zdg c.pats us ([],[]) (hl c (by simp)) hu ⟨rfl,trivial⟩;rw [Wn] at h;split at h
   ·rename_i hb;cases h;exact ⟨c,by simp,rfl,h1,by simpa using h2 hb⟩
   ·obtain ⟨c',hc',h3⟩:=Zi8 hu (fun c hc=>hl c (by simp [hc])) h;exact ⟨c',by simp [hc'],h3⟩
theorem ZdR {fu c d:Int} {us:List Val} {c1:Int} (h:cntV fu c d us=.ok c1):c1=c+1∧¬ c=fu∧d<2000:=by
 unfold cntV at h;split at h
 ·cases h
 ·split at h
  ·cases h
  ·split at h
   ·cases h
   ·cases h; exact ⟨rfl,by assumption,by omega⟩
abbrev ZdS (p:Pr) (fu:Int) (ev:EvF):Prop:=∀ c d e ns vs c' v,Zbp p fu c e ns vs→ev c d e ns vs=.ok (c',v)→v.ok p∧c≤c'∧c'≤fu
theorem Zi9 {p:Pr} (hp:PgR p) {fu c d:Int} {j:Nat} {us:List Val} (hu:YO p us) {f:Fu} (hf:p.funs[j]?=some f) (hl:(us.length:Int)=f.arity) (hc:0≤c∧c≤fu) {c1:Int} (hk:cntV fu c d us=.ok c1) {b:Ex} {e:Env} (hb:Wn f.cls us=some (b,e)):Zbp p fu c1 b e.1 e.2∧b.sz≤1000:=by
 obtain ⟨k1,k2,k3⟩:=ZdR hk;obtain ⟨_,hcl⟩:=hp.cls f (Zqh hf);obtain ⟨cl,hm,rfl,h1,h2⟩:=Zi8 hu (fun c hc=>by have:=(hcl c hc).1; omega) hb;obtain ⟨_,_,h3,h4,h5⟩:=hcl cl hm;exact ⟨⟨Zg9 _ _ _ h3 (fun n hn=>by rw [h2]; simpa using hn),h5,by omega,h1,by omega,by omega⟩,h4⟩
theorem Zfe {p:Pr} (hp:PgR p) {fu:Int} {ev:EvF} (he:ZdS p fu ev) {c d:Int} {j:Nat} {us:List Val} (hu:YO p us) (hl:(us.length:Int)=arAt p j) (hc:0≤c∧c≤fu) {c':Int} {v:Val} (h:callG p fu ev c d j us=.ok (c',v)):v.ok p∧c<c'∧c'≤fu:=by
 unfold callG at h;split at h
 ·cases h
 ·rename_i c1 hk;split at h
  ·rename_i f hf;split at h
   ·cases h
   ·rename_i b e hb;have hg:=Zi9 hp hu hf (by unfold arAt at hl; rw [hf] at hl; exact hl) hc hk hb;obtain ⟨h1,h2,h3⟩:=he _ _ _ _ _ _ _ hg.1 h
    have:=(ZdR hk).1
    exact ⟨h1,by omega,h3⟩
  ·cases h
theorem ZhR {p:Pr} {fu c d:Int} {x:ByteArray} {b:Ex} {ns:List ByteArray} {vs:List Val} {a:Val} (hv:(Val.clo x b ns vs).ok p) (ha:a.ok p) (hc:0≤c∧c≤fu) {c1:Int} (hk:cntV fu c d [a]=.ok c1):Zbp p fu c1 b (x::ns) (a::vs):=by
 obtain ⟨k1,k2,k3⟩:=ZdR hk;obtain ⟨⟨h1,h2,h3,h4,h5⟩,h6⟩:=hv;have h2:=(Xn.1 h2).2 b (by simp [Ex.kids]);exact ⟨Zg9 _ _ _ h2 (fun n hn=>by simpa [Ex.op,Ex.name,or_comm] using hn),h4,h3,⟨by simpa using h1,ha,h6⟩,by omega,by omega⟩
theorem Zbg {p:Pr} {l:List Val} (h:YO p l) (n:Nat):YO p (l.take n):=Xa.2 fun v hv=>Xa.1 h v (List.mem_of_mem_take hv)
theorem ZcK {p:Pr} {l:List Val} (h:YO p l) (n:Nat):YO p (l.drop n):=Xa.2 fun v hv=>Xa.1 h v (List.mem_of_mem_drop hv)
theorem ZjV {p:Pr} (hp:PgR p) {fu:Int} {ev:EvF} (he:ZdS p fu ev) {d:Int}:∀ (n:Nat) (c:Int) (v:Val) (us:List Val) (c':Int) (w:Val),v.ok p→YO p us→us.length≤1099511627776→0≤c∧c≤fu→appG p fu ev n c d v us=.ok (c',w)→w.ok p∧c≤c'∧c'≤fu
 | 0,c,v,us,c',w,hv,hu,hl,hc,h=>by
   rw [appG] at h;split at h
   ·cases h; exact ⟨hv,by omega,hc.2⟩
   ·cases h
 | n+1,c,v,[],c',w,hv,hu,hl,hc,h=>by
   rw [appG] at h;cases h; exact ⟨hv,by omega,hc.2⟩
 | n+1,c,v,a::us,c',w,hv,hu,hl,hc,h=>by
   cases v with
   | built m ks=>rw [appG] at h; cases h
   | clo x b ns vs =>
     rw [appG] at h;split at h
     ·cases h
     ·rename_i c1 hk;split at h
      ·cases h
      ·rename_i c2 w2 h2;obtain ⟨g1,g2,g3⟩:=he _ _ _ _ _ _ _ (ZhR hv hu.1 hc hk) h2
       have:=(ZdR hk).1
       obtain ⟨g4,g5,g6⟩:=ZjV hp he n c2 w2 us c' w g1 hu.2 (by simp at hl; omega) (by omega) h;exact ⟨g4,by omega,g6⟩
   | part j hs =>
     obtain ⟨⟨h1,h2,h3⟩,h4⟩:=hv
     change (hs.length:Int)<arAt p j at h3
     rw [appG] at h;split at h
     ·rename_i hlt;cases h;refine ⟨⟨⟨h1,?_,?_⟩,WC.2 ⟨h4,hu⟩⟩,by omega,hc.2⟩
      ·have hj:=hp.ar _ (Zpk h1)
       have:arAt p j=p.funs[j].arity:=by unfold arAt; rw [ZpP h1]
       rw [Zpy]; omega
      ·change (((hs++a::us).length:Nat):Int)<arAt p j
       rw [Zpy]; omega
     ·rename_i hlt;split at h
      ·cases h
      ·rename_i c2 w2 h5;have hz:(((a::us).take (arAt p j-hs.length).toNat).length:Int)=arAt p j-hs.length:=by rw [ZpX]; omega
       obtain ⟨g1,g2,g3⟩:=Zfe hp he (WC.2 ⟨h4,Zbg hu _⟩) (by rw [Zpy]; omega) hc h5;obtain ⟨g4,g5,g6⟩:=ZjV hp he n c2 w2 _ c' w g1 (ZcK hu _) (by rw [Zp7]; omega) (by omega) h;exact ⟨g4,by omega,g6⟩
theorem ZcW {p:Pr} {fu:Int} {ev:EvF} (he:ZdS p fu ev) {d:Int} {ns:List ByteArray} {vs:List Val} (hn:EnvOk p (ns,vs)):∀ (ks:List Ex) (c c':Int) (l:List Val),(∀ k∈ks,k.sdF p ns=0∧k.nmOk∧k.sz≤5000)→0≤c∧c≤fu→listG ev d ns vs c ks=.ok (c',l)→YO p l∧l.length=ks.length∧c≤c'∧c'≤fu
 | [],c,c',l,hk,hc,h=>by rw [listG] at h; cases h; exact ⟨trivial,rfl,by omega,hc.2⟩
 | k::ks,c,c',l,hk,hc,h=>by
   rw [listG] at h;split at h
   ·cases h
   ·rename_i c1 v h1;split at h
    ·cases h
    ·rename_i c2 l' h2;cases h;obtain ⟨k1,k2,k3⟩:=hk k (by simp);obtain ⟨g1,g2,g3⟩:=he _ _ _ _ _ _ _ ⟨k1,k2,k3,hn,hc.1,hc.2⟩ h1;obtain ⟨g4,g5,g6,g7⟩:=ZcW he hn ks c1 _ l' (fun k hk'=>hk k (by simp [hk'])) (by omega) h2;exact ⟨⟨g1,g4⟩,by simp [g5],by omega,g7⟩
end Go.PV.Ytglpmlbbaedbiaa
end
section
open Go.PV.AH renaming set_same→Zpc,set_ne→Zpg,set_none→Zpb,ne_of→Zo6,set_set→ZpA
open Go.PV.GhL renaming cons→Zpn
open Go.PV.GhV renaming refl→Zpt
open Go.PV.Hold renaming mk→Zo8
open Go.PV.SubH renaming new→Zph,set→ZpG,refl→Zpa
open List renaming drop→Zo9,map_cons→Zpp,map_nil→Zpw,getD_cons_zero→ZpN,getD_cons_succ→ZpK,getD_nil→ZpL
open Nat renaming reduceEqDiff→Zo5,reduceLT→Zo7,reduceAdd→Zpd,succ_ne_self→Zpv
set_option maxRecDepth 20000
set_option maxHeartbeats 4000000
namespace Go.PV.Ytglpmlbbaedbiaa
open Go Go.Proofs
def MacAt (p:Pr) (m1 m2 r:Nat) (fu c d:Int) (H:AH):Prop:=H r=some (mB m1 m2 fu c d)∧TabAt H (.agg (tabE m1 m2)) p
theorem ZnO {H:AH} {m1 m2:Nat} {p:Pr} (h:TabAt H (.agg (tabE m1 m2)) p):H m1=some (fmB (funMk p.funs p.funs.length))∧H m2=some (cmB (conMk p.cons p.cons.length)):=by
 obtain ⟨a1,a2,ha,x1,x2⟩:=h;obtain ⟨rfl,rfl⟩:a1=m1∧a2=m2:=by simpa [tabE,eq_comm] using ha
 exact ⟨x1,x2⟩
theorem MacAt.set {p:Pr} {m1 m2 r:Nat} {fu c d c' d':Int} {H:AH} (h:MacAt p m1 m2 r fu c d H):MacAt p m1 m2 r fu c' d' (H.set r (mB m1 m2 fu c' d')):=by
 obtain ⟨h1,h2⟩:=h;obtain ⟨x1,x2⟩:=ZnO h2;exact ⟨Zpc _ _ _,m1,m2,rfl,by rw [Zpg _ _ (Jr h1 x1).2]; exact x1,by rw [Zpg _ _ (Jr h1 x2).2]; exact x2⟩
theorem MacAt.mono {p:Pr} {m1 m2 r:Nat} {fu c d:Int} {H H':AH} (h:MacAt p m1 m2 r fu c d H) (hs:SubH H H'):MacAt p m1 m2 r fu c d H':=⟨hs _ _ h.1,h.2.mono hs⟩
def McK (fs:List Fu) (m1 m2 r:Nat) (fu d:Int) (H:AH) (R:EvR) (e:VE) (H':AH):Prop :=
 (∃ c v,R=.ok (c,v)∧e=.ret (v.vv fs)∧H'=H.set r (mB m1 m2 fu c d))∨(∃ k c d',R=.error k∧e=.pan (stopE k)∧H'=H.set r (mB m1 m2 fu c d'))
theorem Ji {P:Program} {f:FuncId} {xs:List VV} {H:AH} {K:VE→AH→Prop} (h:ZU P f xs H fun e H''=>∃ H',SubH H' H''∧K e H'):ZU P f xs H K:=fun S w args hs hx =>
 (h S w args hs hx).mono fun e w' hq=>by
   cases e with
   | returned v =>
     obtain ⟨S',H',y,h1,h2,h3,H2,h4,h5⟩:=hq;exact ⟨S',H2,y,h1.trans (h2.sub h4).2,(h2.sub h4).1,h3,h5⟩
   | panicked ch =>
     obtain ⟨S',H',h1,h2,H2,h4,h5⟩:=hq;exact ⟨S',H2,h1.trans (h2.sub h4).2,(h2.sub h4).1,h5⟩
   | outgrown=>exact hq
abbrev EvHyp (p:Pr) (m1 m2 r:Nat) (fu g:Int) (ev:EvF):Prop:=∀ c d e ns vs H,Zbp p fu c e ns vs→(fu-c) * 5001+e.sz<g→0≤d→d≤2000→MacAt p m1 m2 r fu c d H→ZU Try.prog 45 [ptrV r 0,exV e,envC p.funs vs ns] H (McK p.funs m1 m2 r fu d H (ev c d e ns vs))
theorem Zlx:ZL Try.prog 103=true:=by kernel_rfl
theorem Zly {H:AH} {m1 m2 r r3:Nat} {fu c d:Int} {u:FrameMode} {K:VE→FrameMode→AH→Prop} (h3:H r3=some (.cells 121 [ptrV r 0] 0)) (hm:H r=some (mB m1 m2 fu c d))
 (h:∀ x,K (.ret x) u (H.set r (mB m1 m2 fu c (IntKind.i64.wrap (d-1))))):ZaN Try.prog 103 [ptrV r3 0] u H K:=by
 refine Zjp fd103 (by simp) ?_;delta c103 Zb Zq Zr Zd Zm Zg;unfold mB mC at hm
 (repeat' (first | (simp only [↓ZF,ZG,vcNil,ptrV,Zo5,Zo7,Zpd,ZJ,setAt,Zo9,undef,Zda,Zci,Yg,Zc5, *])))
 exact ⟨rfl,_,_,_,rfl,.refl _ _,h _⟩
theorem Zja {p:Pr} {m1 m2 r:Nat} {fu g:Int} {ev:EvF} (hev:EvHyp p m1 m2 r fu g ev) {c d:Int} {e:Ex} {ns:List ByteArray} {vs:List Val} {H:AH} (hg:Zbp p fu c e ns vs) (hms:(fu-c) * 5001+e.sz<g) (hd:0≤d) (hd2:d<2000) (hm:MacAt p m1 m2 r fu c d H) :
 ZU Try.prog 85 [ptrV r 0,exV e,envC p.funs vs ns] H (McK p.funs m1 m2 r fu d H (ev c (d+1) e ns vs)):=by
 refine Ji ?_;refine Jf fd85 (by simp) ?_;delta c85 Zj Zq Zb Zr Zd Zm Zg Za Zo Zc;have hw:IntKind.i64.wrap (d+1)=d+1:=ZO (by omega) (by omega);have hm1:=hm.1;unfold mB mC at hm1;have hcall:=fun H' h=>hev c (d+1) e ns vs H' hg hms (by omega) (by omega) h
 replace hm:=Zo8 hm;clear hev hg;obtain ⟨e1,e2⟩:=Jm p.funs vs ns
 (repeat' (first | (simp only [↓ZF,ZG,↓Znq,vcNil,ptrV,Zo5,Zo7,Zpd,ZJ,setAt,Zo9,undef,Zda,Zci,Yg,Zc5, *]) | (refine ZH fun zr zh=>?_; have zg:=zh; (try simp only [Zpb] at zg); (try have zn_hm1:=Zo6 hm1 zh); (try have zn_hm1:=Zo6 hm1 zg.2); (try have zn_hm1:=Zo6 hm1 zg.2.2))))
 rename_i r3 n3 n3' q3;refine ⟨rfl,?_⟩;obtain ⟨H5,hH5⟩:∃ H5,H5=(((H.set r3 (.cells 121 [ptrV r 0] 0)).set zr (.cells 34 [iV e.op,sV e.name,encS exE e.kids] 0)).set r (mB m1 m2 fu c (d+1))):=⟨_,rfl⟩
 show vcL _ [] _ ⟨_,[{ target:=.fn (.func 103) #[.pointer (some ⟨r3,0,none⟩)],args:=#[] }]⟩ (((H.set r3 (.cells 121 [ptrV r 0] 0)).set zr (.cells 34 [iV e.op,sV e.name,encS exE e.kids] 0)).set r (mB m1 m2 fu c (d+1)));rw [← hH5];have hr3:¬ r=r3:=(Zo6 hm1 n3).1;have hr4:¬ r=zr:=(Zo6 hm1 zg.2).1;have hM:MacAt p m1 m2 r fu c (d+1) H5:=by rw [hH5]; exact (hm.out.mono ((Zph n3).of_set zg.2)).set
 have k3:H5 r3=some (.cells 121 [ptrV r 0] 0):=by
  rw [hH5,Zpg _ _ (Ne.symm hr3),Zpg _ _ zg.1.2,Zpc]
 have k4:H5 zr=some (.cells 34 [iV e.op,sV e.name,encS exE e.kids] 0):=by
  rw [hH5,Zpg _ _ (Ne.symm hr4),Zpc]
 have hs0:∀ b,SubH (H.set r b) (H5.set r b):=fun b=>by
  rw [hH5,ZpA];exact ZpG ((Zph n3).of_set zg.2) _ _
 have hc5:=hcall H5 hM;clear hcall hm hm1 n3 n3' zg zh q3 zn_hm1 hH5
 (repeat' (first | (refine hc5.mono ?_) | (simp only [↓Xx,↓Xy,↓XA,↓Yo,↓Ys,↓YJ,↓YG,↓YH,↓YI,↓Wk,↓ZI,↓YV,↓YR,↓Xk,↓YX,ptrV,Zpp,Zpw,ZpN,ZpK,ZpL,ite_true,ite_false,Zo5,Zo7,true_and,Zpv,eq_self,Zo9,We,XY,Wf,Wg,XF,Zci,Ye,ZoP, *])))
 have hs5:∀ b,(H5.set r b) r3=some (.cells 121 [ptrV r 0] 0):=fun b=>by rw [Zpg _ _ (Ne.symm hr3)]; exact k3
 rintro e' H' (⟨c',v,hR,rfl,rfl⟩ | ⟨k,c',d',hR,rfl,rfl⟩)
 ·have hw2:IntKind.i64.wrap (d+1-1)=d:=by rw [show d+1-1=d by omega]; exact ZO (by omega) (by omega)
  (repeat' (first | (simp only [↓ZF,ZG,Zo5,Zo7, *])))
  refine ⟨by simp,Zlx,[ptrV r3 0],_,Zpn (Zpt _ _) (GhL.nil _),?_⟩;refine Zly (hs5 _) (Zpc _ _ _) (fun x=>?_);rw [hw2,ZpA];exact ⟨v.vv p.funs,_,_,rfl,Zpt _ _,_,hs0 _,.inl ⟨c',v,rfl,rfl,rfl⟩⟩
 ·(repeat' (first | (simp only [↓ZF, *])))
  refine ⟨by simp,Zlx,[ptrV r3 0],_,Zpn (Zpt _ _) (GhL.nil _),?_⟩;refine Zly (hs5 _) (Zpc _ _ _) (fun x=>?_);rw [ZpA];refine ⟨_,Zpa _,H.set r (mB m1 m2 fu c' (IntKind.i64.wrap (d'-1))),hs0 _,.inr ⟨k,c',_,rfl,rfl,rfl⟩⟩
end Go.PV.Ytglpmlbbaedbiaa
end
section
open Go.PV.AH renaming set_none→Zpb,ne_of→Zo6,set_same→Zpc,set_ne→Zpg
open Go.PV.Hold renaming mk→Zo8
open Go.PV.PureF renaming use→Zpe
open Go.PV.SubH renaming refl→Zpa,of_set→Zpi,set→ZpG
open List renaming drop_eq_getElem_cons→ZpI,getElem_mem→Zpk,drop→Zo9,drop_eq_nil_of_le→ZpC,map_cons→Zpp,map_nil→Zpw
open Nat renaming lt_succ_self→Zp8,reduceEqDiff→Zo5,reduceLT→Zo7,reduceAdd→Zpd,succ_ne_self→Zpv,zero_add→Zpu
set_option maxRecDepth 20000
set_option maxHeartbeats 4000000
namespace Go.PV.Ytglpmlbbaedbiaa
open Go Go.Proofs
def clRes (ev:EvF) (c1 d:Int) (R:Option (Ex × Env)):EvR:=match R with | none=>.error 420 | some (b,e)=>ev c1 (d+1) b e.1 e.2
abbrev Zkw (fs:List Fu) (m1 m2 r:Nat) (fu d:Int) (H:AH) (X:EvR):APost:=YP Try.prog [.tmp 6] fun e H''=>∃ H',SubH H' H''∧McK fs m1 m2 r fu d H X e H'
theorem Zm1 {fs:List Fu} {m1 m2 r:Nat} {fu k c d d':Int} {H H':AH} {t:Nat→VV} (hs:SubH (H.set r (mB m1 m2 fu c d')) H'):Zkw fs m1 m2 r fu d H (.error k) (.panic (stopE k)) ⟨t,[]⟩ H' :=
 ⟨rfl,H',Zpa _,_,hs,.inr ⟨k,c,d',rfl,rfl,rfl⟩⟩
theorem ZkO {cs:List Cl} {us:List Val} {i:Nat} (h:i<cs.length):Wn (cs.drop i) us=if (YW cs[i].pats us ([],[])).2=true then some (cs[i].body,(YW cs[i].pats us ([],[])).1) else Wn (cs.drop (i+1)) us:=by
 rw [ZpI h,Wn]
theorem Zow {p:Pr} (hp:PgR p) {m1 m2 r j:Nat} {fu g c1 d:Int} {ev:EvF} (hev:EvHyp p m1 m2 r fu g ev) {us:List Val} (hj:j<p.funs.length) (hul:us.length≤1099511627776) (hu:YO p us) (hl:(us.length:Int)=p.funs[j].arity) (hd:0≤d) (hd2:d<2000) (hc:0≤c1∧c1≤fu) (hms:(fu-c1) * 5001+1000<g) {H0 H:AH} (hm:MacAt p m1 m2 r fu c1 d H) (hHH:∀ b,H.set r b=H0.set r b) {t:Nat→VV}
 (h0:t 0=ptrV r 0) (h2:t 2=vsV p.funs us) (h20:t 20=clsV p.funs[j].cls) (h21:t 21=iV p.funs[j].cls.length) (h22:t 22=iV 0) :
 ACx ⟨Try.prog,56,none⟩ (.loop b63_2) (Xf 0 (thenA (ACx ⟨Try.prog,56,none⟩ c63_3 (Zkw p.funs m1 m2 r fu d H0 (clRes ev c1 d (Wn p.funs[j].cls us)))) (Zkw p.funs m1 m2 r fu d H0 (clRes ev c1 d (Wn p.funs[j].cls us))))) ⟨t,[]⟩ H:=by
 obtain ⟨hcN,hcl⟩:=hp.cls _ (Zpk hj);obtain ⟨R,hR⟩:∃ R,R=Wn p.funs[j].cls us:=⟨_,rfl⟩
 rw [← hR];have hpl:∀ i (h:i<p.funs[j].cls.length),p.funs[j].cls[i].pats.length=us.length:=fun i h=>by have:=(hcl _ (Zpk h)).1; omega
 have hpz:∀ i (h:i<p.funs[j].cls.length),pasSz p.funs[j].cls[i].pats≤1099511627776:=fun i h=>(hcl _ (Zpk h)).2.1
 have hbody:∀ i (h:i<p.funs[j].cls.length) (m:Env),YW p.funs[j].cls[i].pats us ([],[])=(m,true)→Zbp p fu c1 p.funs[j].cls[i].body m.1 m.2∧p.funs[j].cls[i].body.sz≤1000:=fun i h m hm=>by
  obtain ⟨_,_,h3,h4,h5⟩:=hcl _ (Zpk h);obtain ⟨g1,g2⟩:=Zdg p.funs[j].cls[i].pats us ([],[]) (hpl i h).symm hu ⟨rfl,trivial⟩;rw [hm] at g1 g2;exact ⟨⟨Zg9 _ _ _ h3 (fun n hn=>by rw [g2 rfl]; simpa using hn),h5,by omega,g1,hc.1,hc.2⟩,h4⟩
 have hmt:∀ i (h:i<p.funs[j].cls.length) k (h':k<p.funs[j].cls[i].pats.length) (h'':k<us.length) (e:Env),PureF Try.prog 84 [paV p.funs[j].cls[i].pats[k],us[k].vv p.funs,envV p.funs e] (mtR p.funs (p.funs[j].cls[i].pats[k].mtV us[k] e)):=fun i h k h' h'' e =>
  Zmk _ p _ _ _ e (Zp8 _) (by have:=hpz i h; have:=Xd (Zpk h'); omega) (Xa.1 hu _ (Zpk h''))
 have hwi:=fun (i:Nat) (h:i<p.funs[j].cls.length) (m:Env) (hm:YW p.funs[j].cls[i].pats us ([],[])=(m,true)) (H:AH) hM=>Zja (p:=p) (m1:=m1) (m2:=m2) (r:=r) (fu:=fu) (g:=g) (ev:=ev) hev (c:=c1) (d:=d) (H:=H) (hbody i h m hm).1 (by have:=(hbody i h m hm).2; omega) hd hd2 hM
 clear hbody hcl hl hev hu hms hd2 hc;generalize p.funs[j].cls=cls at *
 obtain ⟨hm1,hm2⟩:=hm
 refine ZY (fun _ _ _ h=>h) (fun A H'=>(SubH H H'∧H' r=some (mB m1 m2 fu c1 d))∧A.d=[]∧A.t 0=ptrV r 0∧A.t 2=vsV p.funs us∧A.t 20=clsV cls∧A.t 21=iV cls.length∧∃ i:Nat,i≤cls.length∧A.t 22=iV i∧R=Wn (cls.drop i) us)
  (fun A _=>match A.t 22 with | .lit (.int _ i)=>((cls.length:Int)-i).toNat | _=>0) ?_ ?_
 ·exact ⟨⟨Zpa _,hm1⟩,rfl,h0,h2,h20,h21,0,by omega,h22,hR⟩
 ·clear h0 h2 h20 h21 h22 hR;rintro ⟨t,d'⟩ H' ⟨⟨hs,k1⟩,rfl,h0,h2,h20,h21,i,hi,h22,hR⟩;dsimp only at h0 h2 h20 h21 h22;replace hR:=Zo8 hR;unfold mB mC at k1;delta b63_2 Zn Zr Zk Zb Zi Zg Zq Zd Ze
  (repeat' (first | (simp only [↓ZF,ZG,ptrV,intV,Zo5,Zo7,Zpd,reduceCtorEq,setAt,Zo9,ZdE,Zal,Zig,Wi,Zih,Za8,Xl,Zbj, *]) | (refine Yf ?_ ?_<;>intro) | (refine ZH fun zr zh=>?_; have zg:=zh; (try simp only [Zpb] at zg); (try have zn_k1:=Zo6 k1 zh); (try have zn_k1:=Zo6 k1 zg.2); (try have zn_k1:=Zo6 k1 zg.2.2))))
  ·have hlt:i<cls.length:=by assumption
   have hpl':=hpl i hlt;have hmt':=hmt i hlt;have hwi':=hwi i hlt;have hg:=ZkO (us:=us) hlt;clear hpl hpz hmt hwi;obtain ⟨X,hX⟩:∃ X,X=YW cls[i].pats us ([],[]):=⟨_,rfl⟩
   rw [← hX] at hg hwi';replace hg:=Zo8 hg;have s1:SubH H (H'.set zr (.cells 93 (clE cls[i]) 0)):=hs.of_set (hs.none zh);have q8:(H'.set zr (.cells 93 (clE cls[i]) 0)) zr=some (.cells 93 (clE cls[i]) 0):=Zpc _ _ _;have q1:(H'.set zr (.cells 93 (clE cls[i]) 0)) r=some (mB m1 m2 fu c1 d):=by rw [Zpg _ _ zn_k1.1]; exact k1
   unfold clE at s1 q8 q1;unfold mB mC at q1;generalize H'.set zr (.cells 93 [pasV cls[i].pats,iV cls[i].body.op,sV cls[i].body.name,exsV cls[i].body.kids] 0)=Hy at *
   clear k1 hs zh zg zn_k1
   refine ZY (fun _ _ _ h=>h) (fun A H2=>(SubH H H2∧H2 r=some (.cells 123 [.lit (.map (some m1)),.lit (.map (some m2)),iV fu,iV c1,iV d] 0)∧H2 zr=some (.cells 93 [pasV cls[i].pats,iV cls[i].body.op,sV cls[i].body.name,exsV cls[i].body.kids] 0))∧A.d=[]∧A.t 0=ptrV r 0∧A.t 2=vsV p.funs us∧A.t 8=ptrV zr 0∧A.t 20=clsV cls∧A.t 21=iV cls.length∧A.t 22=iV i∧A.t 27=pasV cls[i].pats∧A.t 28=iV us.length∧∃ (k:Nat) (m:Env),k≤us.length∧A.t 29=iV k∧A.t 9=envV p.funs m∧X=YW (cls[i].pats.drop k) (us.drop k) m)
    (fun A _=>match A.t 29 with | .lit (.int _ i)=>((us.length:Int)-i).toNat | _=>0) ?_ ?_
   ·exact ⟨⟨s1,q1,q8⟩,rfl,(by simp only [ZI,Zo5,if_false, *]<;>rfl),(by simp only [ZI,Zo5,if_false, *]<;>rfl),(by simp only [ZI,Zo5,if_true,if_false, *]<;>rfl),(by simp only [ZI,Zo5,if_false, *]<;>rfl),(by simp only [ZI,Zo5,if_false, *]<;>rfl),(by simp only [ZI,Zo5,if_false, *]<;>rfl),(by simp only [ZI,Zo5,if_true,if_false, *]<;>rfl),(by simp only [ZI,Zo5,if_true,if_false, *]<;>rfl),0,([],[]),by omega,(by simp only [ZI,Zo5,if_true,if_false, *]<;>rfl),(by simp only [ZI,Zo5,if_true,if_false, *]<;>rfl),hX⟩
   ·clear h0 h2 h20 h21 h22 s1 q1 q8;obtain ⟨X0,hX0⟩:∃ X0,X0=X:=⟨_,rfl⟩
    rw [← hX0] at hwi';replace hX0:=Zo8 hX0;replace hwi':=Zo8 hwi';clear hX;rintro ⟨t,d'⟩ H2 ⟨⟨s1,q1,q8⟩,rfl,h0,h2,h8,h20,h21,h22,h27,h28,k,m,hk,h29,h9,hX⟩;dsimp only at h0 h2 h8 h20 h21 h22 h27 h28 h29 h9;delta b63_1 Zn Zr Za Zk Zb Zi Zc Zg Zo Zh Zq Zm;by_cases hkl:k<us.length
    ·have hkp:k<cls[i].pats.length:=by omega
     rw [Zf8 hkp hkl] at hX;have hi1:(k:Int)<(us.length:Int):=by omega
     have hi2:(k:Int)<(cls[i].pats.length:Int):=by omega
     have hcl:=hmt' k hkp hkl m;have hd1:=ZcV (fs:=p.funs) hkl;obtain ⟨w1,w2⟩:=Wt p.funs us[k];generalize cls[i].pats[k].mtV us[k] m=rr at *
     obtain ⟨m',b'⟩:=rr;obtain ⟨e1,e2⟩:=Jm p.funs m'.2 m'.1;obtain ⟨e3,e4⟩:=Jm p.funs m.2 m.1;clear hmt';unfold mtR at hcl;cases b' with
     | true =>
       replace hX:=Zo8 hX
       (repeat' (first | (simp only [↓ZF,ZG,ZP,ptrV,boolV,Zo5,Zo7,Zpd,reduceCtorEq,setAt,Zo9,WM,XB,Jw,Zcs,WE,Xl,YA,ZlR, *]) | (refine ZR mixed (fun _ _ _ _ e h=>⟨e.trans h.1,h.2⟩) _ (Zpa _) ?_) | (refine ZH fun zr zh=>?_; have zg:=zh; (try simp only [Zpb] at zg); (try have zn_q1:=Zo6 q1 zh); (try have zn_q1:=Zo6 q1 zg.2); (try have zn_q1:=Zo6 q1 zg.2.2); (try have zn_q8:=Zo6 q8 zh); (try have zn_q8:=Zo6 q8 zg.2); (try have zn_q8:=Zo6 q8 zg.2.2)) | (exact Zpa _) | (refine Zpi ?_ ?_) | (exact SubH.none (by assumption) (by assumption)) | (refine Zpe (hcl) ?_) | (with_reducible refine And.intro ?_ ?_)))
       all_goals rw [ZO (n:=(k:Int)+1) (by omega) (by omega)]
       ·exact ⟨k+1,m',by omega,rfl,rfl,by rw [hX.out]; rfl⟩
       ·omega
     | false =>
       have hX':X=(m',false):=by rw [hX]; rfl
       have hg2:R=Wn (cls.drop (i+1)) us:=by rw [hR.out,hg.out,hX']; simp
       replace hg2:=Zo8 hg2;clear hX hX'
       (repeat' (first | (simp only [↓ZF,ZG,ZP,ptrV,boolV,Zo5,Zo7,Zpd,reduceCtorEq,setAt,Zo9,WM,XB,Jw,Zcs,WE,Xl,YA,ZlR, *]) | (refine Ya rfl (fun _ _ _ h=>h) ?_) | (refine ZR mixed (fun _ _ _ _ e h=>⟨e.trans h.1,h.2⟩) _ (Zpa _) ?_) | (refine ZH fun zr zh=>?_; have zg:=zh; (try simp only [Zpb] at zg); (try have zn_q1:=Zo6 q1 zh); (try have zn_q1:=Zo6 q1 zg.2); (try have zn_q1:=Zo6 q1 zg.2.2); (try have zn_q8:=Zo6 q8 zh); (try have zn_q8:=Zo6 q8 zg.2); (try have zn_q8:=Zo6 q8 zg.2.2)) | (exact Zpa _) | (refine Zpe (hcl) ?_) | (with_reducible refine And.intro ?_ ?_)))
       delta c63_2 Zm Za
       (repeat' (first | (simp only [↓ZF,ZG,ptrV,Zo5,Zo7,reduceCtorEq, *]) | (refine Zpi ?_ ?_) | (exact SubH.none (by assumption) (by assumption)) | (with_reducible refine And.intro ?_ ?_)))
       ·rfl
       all_goals rw [ZO (n:=(i:Int)+1) (by omega) (by omega)]
       ·exact ⟨i+1,by omega,rfl,hg2.out⟩
       ·omega
    ·rw [ZpC (by omega)] at hX;have hX:X=(m,true):=by rw [hX]; cases us.drop k<;>rfl
     have hX1:X0=(m,true):=hX0.out.trans hX;have hg2:R=some (cls[i].body,m):=by rw [hR.out,hg.out,hX]; simp
     rw [hg2];have hwc:=hwi'.out m hX1 H2 ⟨q1,hm2.mono s1⟩;clear hg hR hX hX1 hX0 hwi' hg2
     (repeat' (first | (simp only [↓ZF,ZG,ptrV,Zo7,reduceCtorEq, *]) | (refine Ya rfl (fun _ _ _ h=>h) ?_)))
     delta c63_1 Za Zd Zb Zo Zr Zc
     (repeat' (first | (refine hwc.mono ?_) | (simp only [↓Xx,↓Xy,↓Yo,↓YJ,↓YG,↓YH,↓YI,↓Wk,↓ZI,↓YV,↓YR,↓Yj,↓Xk,↓YX,ptrV,Zpp,Zpw,ite_true,ite_false,Zo5,Zo7,ne_eq,not_false_eq_true,true_and,Zpv,reduceCtorEq,eq_self,Zpu,Zo9,XY,Wf,Jo,Wg,XF,Jj,ZhB,Ye,en_85, *])))
     rintro e' H3 (⟨c',v,hR,rfl,rfl⟩ | ⟨k',c',d',hR,rfl,rfl⟩)
     ·have hR':clRes ev c1 d (some (cls[i].body,m))=.ok (c',v):=hR;rw [hR'];obtain ⟨o1,o2⟩:=Wt p.funs v
      (repeat' (first | (simp only [↓ZF,ZG,Zo5,Zo7, *]) | (refine ZM ?_)))
      refine ⟨H0.set r (mB m1 m2 fu c' d),?_,.inl ⟨c',v,rfl,rfl,rfl⟩⟩;rw [← hHH];exact ZpG s1 _ _
     ·have hR':clRes ev c1 d (some (cls[i].body,m))=.error k':=hR;rw [hR']
      (repeat' (first | (simp only [↓ZF, *])))
      refine Zm1 (c:=c') (d':=d') ?_;rw [← hHH];exact ZpG s1 _ _
  ·have hie:i=cls.length:=by omega
   subst hie;have hg2:R=none:=by rw [hR.out,ZpC (by omega)]; rfl
   rw [hg2];refine Ya rfl (fun _ _ _ h=>h) ?_;clear hR hg2;delta c63_3 Zq Zr
   (repeat' (first | (simp only [↓ZF,ZG,YN,Zo5,Zo7,ZQ,fillV,setAt,ZQ,YN,Za6,Zbu, *])))
   show Zkw p.funs m1 m2 r fu d H0 (.error 420) (.panic (stopE 420)) _ _;refine Zm1 (c:=c1) (d':=d) ?_;rw [← hHH,show H.set r (mB m1 m2 fu c1 d)=H by funext x; simp only [AH.set]; split<;>simp_all];exact hs
end Go.PV.Ytglpmlbbaedbiaa
end
section
open Go.PV.AH renaming set_set→ZpA
open Go.PV.Hold renaming mk→Zo8
open Go.PV.SubH renaming refl→Zpa
open List renaming getElem?_eq_getElem→ZpP,getElem_mem→Zpk,map_cons→Zpp,map_nil→Zpw,getD_cons_zero→ZpN,getD_cons_succ→ZpK,getD_nil→ZpL,drop→Zo9
open Nat renaming reduceEqDiff→Zo5,reduceLT→Zo7,succ_ne_self→Zpv
set_option maxRecDepth 20000
set_option maxHeartbeats 4000000
namespace Go.PV.Ytglpmlbbaedbiaa
open Go Go.Proofs
theorem Zap {H:AH} {r:Nat} {b:Blk} (h:H r=some b):H.set r b=H:=by funext x; simp only [AH.set]; split<;>simp_all
theorem ZnP {p:Pr} (hp:PgR p) {m1 m2 r j:Nat} {fu g c d:Int} {ev:EvF} (hev:EvHyp p m1 m2 r fu g ev) {us:List Val} (hj:j<p.funs.length) (hul:us.length≤1099511627776) (hu:YO p us) (hl:(us.length:Int)=p.funs[j].arity) (hd:0≤d) (hc:0≤c∧c≤fu) (hfu:fu≤100000) (hms:(fu-c) * 5001≤g) {H:AH} (hm:MacAt p m1 m2 r fu c d H) :
 ZU Try.prog 63 [ptrV r 0,.iptr ((encC fuE p.funs).drop (j * 3)),vsV p.funs us] H (McK p.funs m1 m2 r fu d H (callG p fu ev c d j us)):=by
 refine Ji ?_;refine ZK fd63 (by simp) ?_;delta c63 Zq Za Zo Zr Zd Zb Ze
 have hG:∀ c1,cntV fu c d us=.ok c1→callG p fu ev c d j us=clRes ev c1 d (Wn p.funs[j].cls us):=fun c1 h=>by
  unfold callG clRes;rw [h,ZpP hj]<;>(dsimp only; cases Wn p.funs[j].cls us<;>rfl)
 have hE:∀ k,cntV fu c d us=.error k→callG p fu ev c d j us=.error k:=fun k h=>by unfold callG; rw [h]
 have hcN:=(hp.cls _ (Zpk hj)).1;have hlp:=fun c1 (h:c1=c+1) hd2 hcf (t:Nat→VV)=>Zow (t:=t) hp hev hj hul hu hl hd hd2 (c1:=c1) ⟨by omega,hcf⟩ (by omega) (hm.set (c':=c1) (d':=d)) (fun b=>ZpA _ _ _ _)
 have hm1:=hm.1;rw [Jg hj];have hco:=fun (K:VE→AH→Prop) h1 h2=>Zhd (fs:=p.funs) (p:=p) (K:=K) hul hu hm1 ⟨hc.1,by omega⟩ h1 h2
 generalize callG p fu ev c d j us=X at *
 have hm1:=Zo8 hm1;clear hev hu hms hm hp;have hcf:=hc.2;cases hcn:cntV fu c d us with
 | error k =>
   have hX:=hE k hcn;replace hco:=Zo8 hco;rw [hcn] at hco;rw [hX];clear hE hG hlp hcn hX
   (repeat' (first | (refine hco.out _ (fun c' h _=>absurd h (by simp)) (fun k' c' h=>?_)) | (simp only [↓Xx,↓Xy,↓Zno,↓XA,↓Yo,↓Ys,↓ZgR,↓ZmO,↓YG,↓YH,↓YI,↓YT,↓Wk,↓ZI,↓YV,↓YB,↓Xk,↓YX,ptrV,Zpp,Zpw,ZpN,ZpK,ZpL,ite_true,ite_false,Zo5,Zo7,true_and,Zpv,reduceCtorEq,ZJ,eq_self,undef,ZlQ, *])))
   cases h;exact Zm1 (c:=c') (d':=d) (Zpa _)
 | ok c1 =>
   have hX:=hG _ hcn;obtain ⟨k1,k2,k3⟩:=ZdR hcn;subst k1;rw [hX];have hlp':=hlp (c+1) rfl k3 (by omega);replace hlp':=Zo8 hlp';replace hco:=Zo8 hco;rw [hcn] at hco;clear hE hG hlp hcn hX
   (repeat' (first | (refine hco.out _ (fun c' h he=>?_) (fun k' c' h=>absurd h (by simp))) | (simp only [↓Wj,↓Xx,↓Xy,↓Zbm,↓YS,↓Zno,↓Zin,↓XA,↓Yo,↓Ys,↓YJ,↓YG,↓YH,↓YI,↓YT,↓Wk,↓ZI,↓YV,↓YB,↓YR,↓Wy,↓Yj,↓Jy,↓Xk,↓YX,↓Zd7,vcNil,ptrV,intV,Zpp,Zpw,ZpN,ZpK,ZpL,ite_true,ite_false,Zo5,Zo7,ne_eq,not_false_eq_true,true_and,Zpv,reduceCtorEq,ZJ,eq_self,Zo9,We,Zbc,ZgV,ZbQ,Zbd,XF,Jj,undef,Za9,Zgq,Zbj,ZlQ, *])))
   exact hlp'.out _ (by simp only [ZI,Zo5,if_false, *]<;>rfl) (by simp only [ZI,Zo5,if_false, *]<;>rfl) (by simp only [ZI,Zo5,if_true,if_false, *]<;>rfl) (by simp only [ZI,Zo5,if_true,if_false, *]<;>rfl) (by simp only [ZI,Zo5,if_true,if_false, *]<;>rfl)
end Go.PV.Ytglpmlbbaedbiaa
end
section
open Bool renaming and_self→Zp3
open Go.PV.AH renaming set_ne→Zpg,ne_of→Zo6,get→Zpf,set_set→ZpA,set_none→Zpb,set_same→Zpc
open Go.PV.GhL renaming cons→Zpn
open Go.PV.GhV renaming refl→Zpt,forget→ZpB
open Go.PV.Hold renaming mk→Zo8
open Go.PV.SubH renaming refl→Zpa,set→ZpG,new→Zph
open Int renaming reduceLE→ZpZ
open List renaming eq_nil_of_length_eq_zero→ZpY,drop→Zo9,map_cons→Zpp,map_nil→Zpw,length_cons→Zpx,length_nil→Zp0,append_nil→Zp2,all_cons→ZpU,getElem?_cons_zero→Zqa,getElem?_cons_succ→Zqb,set_cons_zero→Zp5,set_cons_succ→Zp4,getElem?_eq_getElem→ZpP,getElem_mem→Zpk,take_of_length_le→ZpD,length_append→Zpy,length_drop→Zp7,length_take→ZpX
open Nat renaming reduceLT→Zo7,eq_zero_or_pos→Zqf,reduceEqDiff→Zo5,reduceLeDiff→Zpo,reduceAdd→Zpd,succ_ne_self→Zpv,zero_add→Zpu,le_refl→Zpl,lt_succ_self→Zp8
open Option renaming map_none→ZpS,map_some→Zps
set_option maxRecDepth 20000
set_option maxHeartbeats 4000000
namespace Go.PV.Ytglpmlbbaedbiaa
open Go Go.Proofs
theorem ZjW (fs:List Fu) (l:List Val):(encC (valE fs) l).all VV.one=true:=Zbb (fun v=>by simp [valE,(Wt fs v).2]) l
theorem ZnQ (fs:List Fu) (l:List Val):(encC (valE fs) l).length=l.length:=by rw [XU (k:=1) (fun _=>rfl)]; omega
def CapX (H H':AH) (v:VV) (n:Nat) (cs:List VV):Prop:=OwnX H H' 125 1 v n cs∨(H'=H∧v=.slice true 0 []∧n=0∧cs=[])
theorem Zhe {H H':AH} {s x:VV} {n m:Nat} {cs news:List VV} {K:VE→AH→Prop} (ho:CapX H H' s n cs) (hs:srcV H' 1 x=some (m,news)) (hone:news.all VV.one=true) (hm:m ≠ 0) (hb:n+m≤1099511627776)
 (hK:∀ v' H'',OwnX H H'' 125 1 v' (n+m) (cs++news)→K (.ret v') H''):Zam Try.prog 151 s x H' K:=by
 rcases ho with ho | ⟨rfl,rfl,rfl,rfl⟩
 ·exact Za0 YA Jx rfl (by omega) ho hs hone (by omega) (by omega) hK
 ·exact Ww YA Jx rfl (by omega) rfl hs hone (by omega) (by omega) (fun h=>absurd h hm) (fun _=>hK)
theorem CapX.sub {H H':AH} {v:VV} {n:Nat} {cs:List VV} (h:CapX H H' v n cs):SubH H H':=by
 rcases h with h | ⟨rfl,_⟩
 ·exact h.sub
 ·exact Zpa _
theorem ZfS {fs:List Fu}:∀ (l:List Val) (n:Nat),(encC (valE fs) l).drop n=encC (valE fs) (l.drop n)
 | [],n=>by simp [Ze6]
 | v::l,0=>rfl
 | v::l,n+1=>by rw [Yh]; exact ZfS l n
theorem Zjb {fs:List Fu}:∀ (l:List Val) (n:Nat),(encC (valE fs) l).take n=encC (valE fs) (l.take n)
 | [],n=>by simp [Ze6]
 | v::l,0=>rfl
 | v::l,n+1=>by
   rw [Yh,List.take_succ_cons,Yh];show [v.vv fs]++_=_;show (v.vv fs::encC (valE fs) l).take (n+1)=_;rw [List.take_succ_cons,Zjb l n]; rfl
theorem cloneV {fs:List Fu} {l:List Val} (hl:l.length≤1099511627776) {H:AH} {K:VE→AH→Prop} (hK:∀ v H',CapX H H' v l.length (encC (valE fs) l)→K (.ret v) H'):ZU Try.prog 86 [vsV fs l] H K:=by
 refine ZK fd86 (by simp) ?_;delta c86 Zq Za Zr Zl Zc;replace hK:=Zo8 hK
 (repeat' (first | (simp only [↓ZF,ZG,Zo7,reduceCtorEq,ZJ,undef, *])))
 refine Zkn und_151 fun b hb=>?_
 cases b with
 | true =>
   have h0:l.length=0:=by
    rcases Zqf l.length with h | h
    ·exact h
    ·exact absurd (hb h) (by simp)
   obtain rfl:l=[]:=ZpY h0
   (repeat' (first | (simp only [↓ZF,ZG,boolV,Zo5,Zo7, *]) | (refine ZM ?_)))
   exact hK.out _ _ (.inl (OwnX.nil _ _ _))
 | false =>
   (repeat' (first | (simp only [↓ZF,ZG,boolV,Zo5,Zo7,Zpo,reduceCtorEq,fillV,ZN,ZN,YA,Jx, *])))
   refine Ww YA Jx rfl (by omega) rfl (Zcm (enc:=valE fs) (k:=1) (fun _=>rfl) H false l) (ZjW fs l) (by omega) (by omega) (fun h=>?_) (fun _ v' H' ho=>?_)
   ·obtain rfl:l=[]:=ZpY h
    (repeat' (first | (simp only [↓ZF,ZG,Zo5,Zo7, *]) | (refine ZM ?_)))
    exact hK.out _ _ (.inr ⟨rfl,rfl,rfl,rfl⟩)
   ·(repeat' (first | (simp only [↓ZF,ZG,Zo5,Zo7, *]) | (refine ZM ?_)))
    exact hK.out _ _ (.inl (by simpa using ho))
theorem as_cc {y:VV} {H:AH} {K:VE→AH→Prop}:Xs Try.prog (.iface 155 y) 155 true H K=K (.ret (.tuple [y,boolV true])) H:=propext ⟨fun h=>h.2,fun h=>⟨by kernel_rfl,h⟩⟩
theorem Zo3 {y:VV} {H:AH} {K:VE→AH→Prop}:Xs Try.prog (.iface 158 y) 158 true H K=K (.ret (.tuple [y,boolV true])) H:=propext ⟨fun h=>h.2,fun h=>⟨by kernel_rfl,h⟩⟩
abbrev zC:Value:=.agg #[.int .i64 0,.string ⟨#[]⟩,.slice none 0 0,.pointer none]
abbrev zP:Value:=.agg #[.pointer none,.slice none 0 0]
theorem as_cb {y:VV} {H:AH} {K:VE→AH→Prop}:Xs Try.prog (.iface 161 y) 155 true H K=K (.ret (.tuple [.lit zC,boolV false])) H:=asN (by kernel_rfl) ZiG (by decide)
theorem Zo4 {y:VV} {H:AH} {K:VE→AH→Prop}:Xs Try.prog (.iface 158 y) 155 true H K=K (.ret (.tuple [.lit zC,boolV false])) H:=asN (by kernel_rfl) ZiG (by decide)
theorem as_pb {y:VV} {H:AH} {K:VE→AH→Prop}:Xs Try.prog (.iface 161 y) 158 true H K=K (.ret (.tuple [.lit zP,boolV false])) H:=asN (by kernel_rfl) Zn7 (by decide)
theorem Zgt {fs:List Fu} {m1 m2 r:Nat} {fu d:Int} {H:AH} {R:EvR} {f:FuncId} {xs:List VV} {K:VE→AH→Prop} (h:ZU Try.prog f xs H (McK fs m1 m2 r fu d H R)) (h1:∀ c v,R=.ok (c,v)→K (.ret (v.vv fs)) (H.set r (mB m1 m2 fu c d))) (h2:∀ k c d',R=.error k→K (.pan (stopE k)) (H.set r (mB m1 m2 fu c d'))):ZU Try.prog f xs H K:=h.mono fun e H' hq=>by
 rcases hq with ⟨c,v,hR,rfl,rfl⟩ | ⟨k,c,d',hR,rfl,rfl⟩
 ·exact h1 c v hR
 ·exact h2 k c d' hR
theorem Zml {fs:List Fu} {p:Pr} {us:List Val} {ex:Bool} {m:Nat} {r m1 m2:Nat} {fu c d:Int} {H:AH} {K:VE→AH→Prop} (hm':m=us.length) (hl:us.length≤1099511627776) (hu:YO p us) (hm:H r=some (mB m1 m2 fu c d)) (hc:0≤c∧c≤1099511627776)
 (h1:∀ c',cntV fu c d us=.ok c'→c'=c+1→K (.ret (.tuple [])) (H.set r (mB m1 m2 fu c' d))) (h2:∀ k c',cntV fu c d us=.error k→K (.pan (stopE k)) (H.set r (mB m1 m2 fu c' d))):ZU Try.prog 83 [ptrV r 0,.slice ex m (encC (valE fs) us)] H K:=by
 subst hm';exact YU (Zpn (Zpt _ _) (Zpn (GhV.imm H) (GhL.nil _))) (Zhd hl hu hm hc h1 h2)
def ghK (K:VE→AH→Prop):VE→AH→Prop
 | .ret y,H=>∃ x H',GhV H y H' x∧K (.ret x) H'
 | .pan ch,H=>∃ H',SubH H' H∧K (.pan ch) H'
theorem Zdh {P:Program} {f:FuncId} {xs:List VV} {H:AH} {K:VE→AH→Prop} (h:ZU P f xs H (ghK K)):ZU P f xs H K:=fun S w args hs hx =>
 (h S w args hs hx).mono fun e w' hq=>by
   cases e with
   | returned v =>
     obtain ⟨S',H',y,h1,h2,h3,x,H2,h4,h5⟩:=hq;obtain ⟨S2,g1,g2,g3⟩:=h4 S' w' v h2 h3;exact ⟨S2,H2,x,h1.trans g1,g2,g3,h5⟩
   | panicked ch =>
     obtain ⟨S',H',h1,h2,H2,h4,h5⟩:=hq;exact ⟨S',H2,h1.trans (h2.sub h4).2,(h2.sub h4).1,h5⟩
   | outgrown=>exact hq
abbrev apPost (fs:List Fu) (m1 m2 r:Nat) (fu d:Int) (H:AH) (X:EvR):APost:=YP Try.prog [.tmp 6] (ghK (McK fs m1 m2 r fu d H X))
theorem ZdT {fs:List Fu} {m1 m2 r:Nat} {fu k c d d':Int} {H H':AH} {t:Nat→VV} (hs:SubH (H.set r (mB m1 m2 fu c d')) H'):apPost fs m1 m2 r fu d H (.error k) (.panic (stopE k)) ⟨t,[]⟩ H' :=
 ⟨rfl,H',Zpa _,_,hs,.inr ⟨k,c,d',rfl,rfl,rfl⟩⟩
theorem apply_ok {p:Pr} (hp:PgR p) {m1 m2 r:Nat} {fu g c d:Int} {ev:EvF} (hev:EvHyp p m1 m2 r fu g ev) (hpr:ZdS p fu ev) {v:Val} {us:List Val} {ex:Bool} (hv:v.ok p) (hul:us.length≤1099511627776) (hu:YO p us) (hd:0≤d) (hc:0≤c∧c≤fu) (hfu:fu≤100000) (hms:(fu-c) * 5001≤g) {H:AH} (hm:MacAt p m1 m2 r fu c d H) (n:Nat) (hn:us.length≤n) :
 ZU Try.prog 64 [ptrV r 0,v.vv p.funs,.slice ex us.length (encC (valE p.funs) us)] H (McK p.funs m1 m2 r fu d H (appG p fu ev n c d v us)):=by
 refine Zdh ?_;refine ZK fd64 (by simp) ?_;delta c64 Zq;obtain ⟨X,hX⟩:∃ X,X=appG p fu ev n c d v us:=⟨_,rfl⟩
 rw [← hX];replace hX:=Zo8 hX;obtain ⟨o1,o2⟩:=Wt p.funs v
 (repeat' (first | (simp only [↓ZF,ZG,ptrV,Zo7,ZJ,undef, *])))
 refine ZfQ (fun _ _ _ h=>h) (fun n A H'=>(SubH (H.set r (mB m1 m2 fu c d)) H'∨True)∧A.d=[]∧A.t 0=ptrV r 0∧∃ (c':Int) (w:Val) (us:List Val) (ex:Bool),MacAt p m1 m2 r fu c' d H'∧(∀ b,SubH (H.set r b) (H'.set r b))∧A.t 1=w.vv p.funs∧A.t 2=.slice ex us.length (encC (valE p.funs) us)∧w.ok p∧YO p us∧us.length≤1099511627776∧us.length≤n∧c≤c'∧c'≤fu∧X=appG p fu ev n c' d w us)
  (n0:=n) ⟨.inr trivial,rfl,(by simp only [ZI,Zo5,if_false, *]<;>rfl),c,v,us,ex,hm,fun b=>Zpa _,(by simp only [ZI,Zo5,if_false, *]<;>rfl),(by simp only [ZI,Zo5,if_false, *]<;>rfl),hv,hu,hul,hn,by omega,hc.2,hX.out⟩ ?_
 clear hX hv hu hul hn hm o1 o2;rintro n ⟨t,d'⟩ H' ⟨_,rfl,h0,c',w,us,ex,hm,hs,h1,h2,hw,hu,hul,hn,hcc,hcf,hX⟩ Rr hrr;dsimp only at h0 h1 h2;delta b64_1 Za Ze Zm Zr Zq Zh Zi Zg Zb Zo Zd Zj Zc Zn Zl;have hm1:=hm.1;by_cases hz:us.length=0
 ·have hz':¬ (0:Int)<(us.length:Int):=by omega
  have hX':X=.ok (c',w):=by
   obtain rfl:=ZpY hz;rw [hX]; cases n<;>rw [appG]; rfl
  rw [hX'];clear hX hrr hz hX';obtain ⟨o1,o2⟩:=Wt p.funs w
  (repeat' (first | (simp only [↓ZF,ZG,intV,Zo5,Zo7,reduceCtorEq,YA, *]) | (refine Ya rfl (fun _ _ _ h=>h) ?_)))
  delta c64_1 Za Zc
  (repeat' (first | (simp only [↓ZF,ZG,Zo5,Zo7, *]) | (refine ZM ?_)))
  have h5:=hs (mB m1 m2 fu c' d);rw [Zap hm1] at h5;exact ⟨_,_,ZpB h5 _,.inl ⟨c',w,rfl,rfl,rfl⟩⟩
 ·obtain ⟨a,l,hl⟩:∃ a l,us=a::l:=by
   cases us with
   | nil=>exact absurd rfl hz
   | cons a l=>exact ⟨a,l,rfl⟩
  have hz':(0:Int)<(us.length:Int):=by omega
  have hd0:Zo9 (Int.toNat 0) (a.vv p.funs::encC (valE p.funs) l)=a.vv p.funs::encC (valE p.funs) l:=rfl;have hcs:encC (valE p.funs) us=a.vv p.funs::encC (valE p.funs) l:=by rw [hl]; rfl
  obtain ⟨n,rfl⟩:∃ n',n=n'+1:=⟨n-1,by omega⟩
  obtain ⟨a1,a2⟩:=Wt p.funs a;cases w with
  | built m ks =>
    have hX':X=.error 421:=by rw [hX,hl,appG]
    rw [hX'];rw [ZbT] at h1;clear hX hrr hX' hl
    (repeat' (first | (simp only [↓ZF,ZG,YN,ZP,intV,boolV,Zo5,Zo7,reduceCtorEq,ZQ,fillV,setAt,as_cb,as_pb,ZQ,YN,Za6,Zbu,YA, *])))
    show apPost p.funs m1 m2 r fu d H (.error 421) (.panic (stopE 421)) _ _;refine ZdT (c:=c') (d':=d) ?_;have h5:=hs (mB m1 m2 fu c' d);rw [Zap hm1] at h5;exact h5
  | clo x b ns vs =>
    rw [Zgr] at h1;obtain ⟨e1,e2⟩:=Jm p.funs vs ns;have hco:=fun (H:AH) (K:VE→AH→Prop) hm h1 h2=>Zml (fs:=p.funs) (p:=p) (us:=[a]) (ex:=true) (m:=1) (r:=r) (m1:=m1) (m2:=m2) (fu:=fu) (c:=c') (d:=d) (H:=H) (K:=K) rfl (by simp) ⟨by rw [hl] at hu; exact hu.1,trivial⟩ hm ⟨by omega,by omega⟩ h1 h2
    have hm1':∀ {z:Nat} {b:Blk},H' z=none→(H'.set z b) r=some (mB m1 m2 fu c' d):=fun hz=>by rw [Zpg _ _ (Zo6 hm1 hz).1]; exact hm1
    have hr7:∀ z,H' z=none→¬ r=z:=fun z hz=>(Zo6 hm1 hz).1
    cases hcn:cntV fu c' d [a] with
    | error k =>
      have hX':X=.error k:=by rw [hX,hl,appG,hcn]
      rw [hX'];rw [hcn] at hco;replace hco:=Zo8 hco;clear hX hrr hl hX' hcn
      (repeat' (first | (refine hco.out _ _ ?_ (fun c' h _=>absurd h (by simp)) (fun k' c' h=>?_)) | (simp only [↓Wj,↓Xx,↓Xy,↓Xm,↓Xc,↓YS,↓XA,↓Yo,↓Ys,↓ZgR,↓s_inP,↓YJ,↓ZmO,↓YG,↓WP,↓YH,↓WQ,↓YI,↓YT,↓Wk,↓ZI,↓YV,↓YR,↓Wu,↓Wc,↓XQ,↓ZbX,↓Xv,↓ZbY,↓Wo,↓Jy,↓Xk,↓YX,↓Zd7,↓WH,ZP,ptrV,intV,boolV,Zpp,Zpw,Zpx,Zp0,Zp2,ite_true,ite_false,Zo5,Zo7,Zpd,Zpo,ne_eq,not_false_eq_true,true_and,Zpv,decide_true,reduceCtorEq,Nat.mul_one,Zpf,ZpA,fillV,setAt,ZpU,List.all_nil,Zp3,eq_self,Zpu,and_self,Zqa,Zqb,We,JH,JS,Xw,JN,Zp5,Zp4,↓XS,Xt,Zpl,Zbc,Zeb,Zbo,ZbQ,Zbd,XF,Zbe,Zbf,ZpZ,ZN,List.replicate_succ,List.replicate_zero,List.flatten_cons,List.flatten_nil,as_cc,ZN,Jw,ZjL,ZfG,YA,Jx,ZlQ, *]) | (refine ZH fun zr zh=>?_; have zg:=zh; (try simp only [Zpb] at zg))))
      cases h;refine ZdT (c:=c') (d':=d) ?_;exact (hs _).trans (ZpG (Zph (by assumption)) _ _)
    | ok c1 =>
      obtain ⟨k1,k2,k3⟩:=ZdR hcn;subst k1;have hgd:=ZhR hw (by rw [hl] at hu; exact hu.1) ⟨by omega,hcf⟩ hcn;have hX':∀ R,ev (c'+1) (d+1) b (x::ns) (a::vs)=R→X=match R with | .error k=>.error k | .ok (c2,w)=>appG p fu ev n c2 d w l:=fun R hR=>by rw [hX,hl,appG,hcn,← hR]<;>rfl
      rw [hcn] at hco;have hl1:us.length-1=l.length:=by rw [hl]; simp
      have hlu:YO p l:=by rw [hl] at hu; exact hu.2
      replace hX':=Zo8 hX';replace hrr:=Zo8 hrr;replace hco:=Zo8 hco;have hll:l.length≤n:=by rw [hl] at hn; simpa using hn
      have hlul:l.length≤1099511627776:=by omega
      have hbz:=hw.1.2.2.1;clear hX hl hcn hn hu hw
      (repeat' (first | (simp only [↓ZF,ZG,ZP,ptrV,intV,boolV,Zo5,Zo7,Zpd,Zpo,reduceCtorEq,fillV,setAt,ZpZ,ZN,as_cc,ZN,Jw,ZjL,ZfG,YA,Jx,ZlQ, *]) | (refine ZH fun zr zh=>?_; have zg:=zh; (try simp only [Zpb] at zg))))
      refine hco.out _ _ (hm1' zh) (fun c1 h he=>?_) (fun k' c' h=>absurd h (by simp));subst he;obtain ⟨H3,hH3⟩:∃ H3,H3=(H'.set zr (.cells 155 [iV 5,sV x,encS exE [b],envC p.funs vs ns] 0)).set r (mB m1 m2 fu (c'+1) d):=⟨_,rfl⟩
      rw [← hH3];have hrz:=hr7 zr zh;have q7:H3 zr=some (.cells 155 [iV 5,sV x,encS exE [b],envC p.funs vs ns] 0):=by rw [hH3,Zpg _ _ (Ne.symm hrz),Zpc]
      have hM3:MacAt p m1 m2 r fu (c'+1) d H3:=by rw [hH3]; exact (hm.mono (Zph zh)).set
      have hs3:∀ b,SubH (H.set r b) (H3.set r b):=fun b=>by rw [hH3,ZpA]; exact (hs b).trans (ZpG (Zph zh) _ _)
      have hb0:Zo9 (Int.toNat 0 * 3) (encC exE [b])=[iV b.op,sV b.name,encS exE b.kids]:=by rw [Yh,WU]; rfl
      have h01:(0:Int)<((1:Nat):Int):=by decide
      clear hco zh zg hH3
      (repeat' (first | (simp only [↓ZF,ZG,ptrV,Zo5,Zo7,Zpd,Zpo,reduceCtorEq,ZQ,fillV,setAt,Zo9,ZpZ,ZiH,ZW,Yd,ZiI,Jw,Yk,Ye,Ym,Zdv,ZjM,YA,ZZ,en_85, *]) | (refine ZR mixed (fun _ _ _ _ e h=>⟨e.trans h.1,h.2⟩) _ (Zpa _) ?_) | (refine And.intro (Zph (by assumption)) ?_) | (refine ZH fun zr zh=>?_; have zg:=zh; (try simp only [Zpb] at zg); (try have zn_q7:=Zo6 q7 zh); (try have zn_q7:=Zo6 q7 zg.2); (try have zn_q7:=Zo6 q7 zg.2.2))))
      refine YU (Zpn (Zpt _ _) (Zpn (Zpt _ _) (Zpn (GhV.ptrN (Zpc _ _ _) zh (Zph zh)) (GhL.nil _)))) ?_;have he:VV.iptr [.lit (.string x),a.vv p.funs,envC p.funs vs ns]=envC p.funs (a::vs) (x::ns):=by rw [envC]
      rw [he];refine Zgt (Zja hev (e:=b) hgd (by omega) hd k3 hM3) (fun c2 w2 hR=>?_) (fun k c2 d2 hR=>?_)
      ·have hX2:X=appG p fu ev n c2 d w2 l:=hX'.out _ hR;obtain ⟨g1,g2,g3⟩:=hpr _ _ _ _ _ _ _ hgd hR;obtain ⟨o1,o2⟩:=Wt p.funs w2;clear hX' he zh zg hR;replace hX2:=Zo8 hX2
       (repeat' (first | (simp only [↓ZF,ZG,Zo5,Zo7,Zo9,ZpZ,Int.reduceToNat,YC,ZpS,Zps,Xj,idxV,idxOk,imp_self,YA, *]) | (with_reducible refine And.intro ?_ ?_)))
       ·omega
       ·exact hrr.out n _ _ (Zp8 _) ⟨.inr trivial,rfl,(by simp only [ZI,Zo5,if_false, *]<;>rfl),c2,w2,l,_,hM3.set,fun b=>by rw [ZpA]; exact hs3 b,(by simp only [ZI,Zo5,if_true,if_false, *]<;>rfl),(by simp only [ZI,Zo5,if_true,if_false, *]<;>rfl),g1,hlu,hlul,hll,by omega,g3,hX2.out⟩
      ·have hX2:X=.error k:=hX'.out _ hR;rw [hX2];clear hX' he hR hX2
       (repeat' (first | (simp only [↓ZF, *])))
       exact ZdT (c:=c2) (d':=d2) (hs3 _)
  | part j hs2 =>
    obtain ⟨⟨hj,hhl,har⟩,hh⟩:=hw
    change (hs2.length:Int)<arAt p j at har
    have hA:arAt p j=p.funs[j].arity:=by unfold arAt; rw [ZpP hj]
    have hA10:=hp.ar _ (Zpk hj);obtain ⟨la,hla⟩:∃ la:Nat,p.funs[j].arity-hs2.length=la:=⟨(p.funs[j].arity-hs2.length).toNat,by omega⟩
    have hla1:1≤la:=by omega
    have hla10:la≤10:=by omega
    have hwl:IntKind.i64.wrap (la:Int)=la:=ZO (n:=(la:Int)) (by omega) (by omega);have hfd:=Jg (l:=p.funs) hj;rw [Zco,hfd] at h1;by_cases hlt:us.length<la
    ·have hlt':(us.length:Int)<(la:Int):=by omega
     have hX':X=.ok (c',.part j (hs2++us)):=by
      rw [hX,hl,appG,if_pos (by rw [← hl,hA,hla]; exact hlt')]
     rw [hX'];clear hX hrr hl hX'
     (repeat' (first | (simp only [↓ZF,ZG,↓ZlT,vcNil,ZP,ptrV,intV,boolV,Zo5,Zo7,Zpd,reduceCtorEq,setAt,Zo9,vcMin,Zo4,Zo3,YC,ZpS,Zps,Xj,idxV,idxOk,Zc9,Wq,ZaJ,ZgN,Yg,Je,ZgL,Zc6,YA,en_86, *]) | (refine ZR mixed (fun _ _ _ _ e h=>⟨e.trans h.1,h.2⟩) _ (Zpa _) ?_) | (refine ZH fun zr zh=>?_; have zg:=zh; (try simp only [Zpb] at zg)) | (with_reducible refine And.intro ?_ ?_)))
     ·exact fun h=>h.elim
     ·omega
     have hsr:∀ H ex,srcV H 1 (.slice ex (us.length-0) (a.vv p.funs::encC (valE p.funs) l))=some (us.length,encC (valE p.funs) us):=fun H ex=>by rw [← hcs]; simp [srcV,ZnQ,ZpD]
     refine cloneV hhl (fun v' H4 hcap=>?_);clear hcs
     (repeat' (first | (simp only [↓ZF,ZG,Zo5,Zo7, *]) | (with_reducible refine And.intro ?_ ?_)))
     ·exact hcap.sub
     refine Zhe hcap (hsr _ _) (ZjW _ _) (by omega) (by omega) (fun v2 H5 ho=>?_);have q8:=ho.sub _ _ (Zpc _ _ _);have c1:=ho.cells.1;have c2:=ho.cells.2;have hbk:=hs (mB m1 m2 fu c' d);rw [Zap hm1] at hbk;have hv2:=GhV.back ho (hbk.trans (Zph zh))
     have hres:(Val.part j (hs2++us)).vv p.funs=.iface 158 (.agg [.iptr (sV p.funs[j].name::iV p.funs[j].arity::clsV p.funs[j].cls::encC fuE (p.funs.drop (j+1))),.slice false (hs2.length+us.length) (encC (valE p.funs) hs2++encC (valE p.funs) us)]):=by
      rw [Zco,Jg hj,← Yu,← Zpy]
     replace hv2:=Zo8 hv2;replace hres:=Zo8 hres;clear ho hcap hsr hbk
     (repeat' (first | (simp only [↓ZF,ZG,YN,intV,Zo5,Zo7,Zpd,Zpo,reduceCtorEq,ZQ,fillV,setAt,Zo9,Znw,ZQ,YN,Zc9,ZgN,Znj,YA, *]) | (refine ZM ?_) | (with_reducible refine And.intro ?_ ?_)))
     ·exact ni_158
     exact ⟨_,_,GhV.iface (GhV.agg (Zpn (Zpt _ _) (Zpn hv2.out (GhL.nil _)))),.inl ⟨c',_,rfl,by rw [hres.out],rfl⟩⟩
    ·have hlt':¬ (us.length:Int)<(la:Int):=by omega
     have hX':∀ R,callG p fu ev c' d j (hs2++us.take la)=R→X=match R with | .error k=>.error k | .ok (c2,w)=>appG p fu ev n c2 d w (us.drop la):=fun R hR=>by
      have e1:(arAt p j-(hs2.length:Int)).toNat=la:=by omega
      rw [hX,hl,appG,if_neg (by rw [← hl,hA,hla]; exact hlt'),e1,← hl,hR]<;>(cases R<;>rfl)
     replace hX':=Zo8 hX';replace hrr:=Zo8 hrr;have hll:(us.drop la).length≤n:=by rw [Zp7]; omega
     have hlul:(us.drop la).length≤1099511627776:=by rw [Zp7]; omega
     have htk:(us.take la).length=la:=by rw [ZpX]; omega
     clear hX hl
     (repeat' (first | (simp only [↓ZF,ZG,↓ZlT,vcNil,ZP,ptrV,intV,boolV,Zo5,Zo7,Zpd,reduceCtorEq,setAt,Zo9,vcMin,Zo4,Zo3,YC,ZpS,Zps,Xj,idxV,idxOk,Zc9,Wq,ZaJ,ZgN,Yg,Je,ZgL,Zc6,YA,en_86, *]) | (refine ZR mixed (fun _ _ _ _ e h=>⟨e.trans h.1,h.2⟩) _ (Zpa _) ?_) | (refine ZH fun zr zh=>?_; have zg:=zh; (try simp only [Zpb] at zg)) | (with_reducible refine And.intro ?_ ?_)))
     ·exact fun h=>h.elim
     ·omega
     ·omega
     have hsr:∀ H ex,srcV H 1 (.slice ex (la-0) (a.vv p.funs::encC (valE p.funs) l))=some (la,encC (valE p.funs) (us.take la)):=fun H ex=>by
      rw [← hcs,← Zjb]; simp [srcV,ZnQ]; omega
     have hdr:Zo9 (la * 1) (a.vv p.funs::encC (valE p.funs) l)=encC (valE p.funs) (us.drop la):=by rw [← hcs,ZfS,Nat.mul_one]
     have hdl:us.length-la=(us.drop la).length:=by rw [Zp7]
     refine cloneV hhl (fun v' H4 hcap=>?_);clear hcs
     (repeat' (first | (simp only [↓ZF,ZG,Zo5,Zo7, *]) | (with_reducible refine And.intro ?_ ?_)))
     ·exact hcap.sub
     refine Zhe hcap (hsr _ _) (ZjW _ _) (by omega) (by omega) (fun v2 H5 ho=>?_);have q8:=ho.sub _ _ (Zpc _ _ _);have c1:=ho.cells.1;have c2:=ho.cells.2;have hv2:=GhV.back ho (Zph zh);replace hv2:=Zo8 hv2;clear ho hcap hsr
     (repeat' (first | (simp only [↓ZF,ZG,ptrV,intV,Zo5,Zo7,reduceCtorEq,Zo9,Zc9,ZgN,YA,en_63, *])))
     refine YU (Zpn (Zpt _ _) (Zpn (Zpt _ _) (Zpn hv2.out (GhL.nil _)))) ?_
     have hvs:vsV p.funs (hs2++us.take la)=.slice false (hs2.length+la) (encC (valE p.funs) hs2++encC (valE p.funs) (us.take la)):=by
      show encS _ _=_;rw [encS,Yu,Zpy,htk]
     have hlen:((hs2++us.take la).length:Int)=p.funs[j].arity:=by rw [Zpy,htk]; omega
     have hcl:=ZnP (d:=d) hp hev hj (us:=hs2++us.take la) (by omega) (WC.2 ⟨hh,Zbg hu la⟩) hlen hd ⟨by omega,hcf⟩ hfu (by omega) hm;rw [hvs,hfd] at hcl;refine Zgt hcl (fun c2 w2 hR=>?_) (fun k c2 d2 hR=>?_)
     ·have hX2:X=appG p fu ev n c2 d w2 (us.drop la):=hX'.out _ hR;obtain ⟨g1,g2,g3⟩:=Zfe hp hpr (WC.2 ⟨hh,Zbg hu la⟩) (by rw [hA]; exact hlen) ⟨by omega,hcf⟩ hR;obtain ⟨o1,o2⟩:=Wt p.funs w2;have hlu:=ZcK hu la;clear hX' hR hcl hvs q8 zh zg;replace hX2:=Zo8 hX2
      (repeat' (first | (simp only [↓ZF,ZG,Zo5,Zo7,YC,ZpS,Zps,Xj,idxV,idxOk,imp_self,YA, *]) | (with_reducible refine And.intro ?_ ?_)))
      any_goals omega
      ·exact hrr.out n _ _ (Zp8 _) ⟨.inr trivial,rfl,(by simp only [ZI,Zo5,if_false, *]<;>rfl),c2,w2,us.drop la,_,hm.set,fun b=>by rw [ZpA]; exact hs b,(by simp only [ZI,Zo5,if_true,if_false, *]<;>rfl),(by simp only [ZI,Zo5,if_true,if_false, *,ZfS]<;>rfl),g1,hlu,hlul,hll,by omega,g3,hX2.out⟩
     ·have hX2:X=.error k:=hX'.out _ hR;rw [hX2];clear hX' hR hX2 hcl hvs
      (repeat' (first | (simp only [↓ZF, *])))
      exact ZdT (c:=c2) (d':=d2) (hs _)
end Go.PV.Ytglpmlbbaedbiaa
end
section
open Go.PV.AH renaming set_ne→Zpg,set_none→Zpb,ne_of→Zo6,set_set→ZpA
open Go.PV.Hold renaming mk→Zo8
open Go.PV.SubH renaming refl→Zpa,new→Zph,set→ZpG
open List renaming drop_eq_getElem_cons→ZpI,drop→Zo9,getElem_mem→Zpk,drop_eq_nil_of_le→ZpC
open Nat renaming reduceEqDiff→Zo5,reduceLT→Zo7,reduceAdd→Zpd,reduceLeDiff→Zpo
set_option maxRecDepth 20000
set_option maxHeartbeats 4000000
namespace Go.PV.Ytglpmlbbaedbiaa
open Go Go.Proofs
def appL (l:List Val) (R:EvL):EvL:=match R with | .error k=>.error k | .ok (c,m)=>.ok (c,l++m)
theorem appL_nil (R:EvL):appL [] R=R:=by
 cases R with
 | error k=>rfl
 | ok x=>rfl
def McL (fs:List Fu) (m1 m2 r:Nat) (fu d:Int) (H:AH) (R:EvL) (e:VE) (H':AH):Prop :=
 (∃ c l,R=.ok (c,l)∧e=.ret (vsV fs l)∧H'=H.set r (mB m1 m2 fu c d))∨(∃ k c d',R=.error k∧e=.pan (stopE k)∧H'=H.set r (mB m1 m2 fu c d'))
theorem Zmm {ev:EvF} {d:Int} {ns:List ByteArray} {vs:List Val} {c:Int} {ks:List Ex} {i:Nat} (h:i<ks.length):listG ev d ns vs c (ks.drop i)=match ev c d ks[i] ns vs with
 | .error k=>.error k
 | .ok (c',v)=>(match listG ev d ns vs c' (ks.drop (i+1)) with
   | .error k=>.error k
   | .ok (c'',l)=>.ok (c'',v::l)):=by rw [ZpI h,listG]<;>rfl
theorem ZnR {p:Pr} {m1 m2 r r3 r4 r5:Nat} {fu g c d:Int} {ev:EvF} (hev:EvHyp p m1 m2 r fu g ev) (hpr:ZdS p fu ev) {e:Ex} {ns:List ByteArray} {vs:List Val} (hk:∀ k∈e.kids,k.sdF p ns=0∧k.nmOk∧k.sz≤5000∧(fu-c) * 5001+k.sz<g) (hkl:e.kids.length≤5000) (hen:EnvOk p (ns,vs)) (hc:0≤c∧c≤fu) (hd:0≤d∧d≤2000) {H:AH} (hm:MacAt p m1 m2 r fu c d H)
 (h3:H r3=some (.cells 121 [ptrV r 0] 0)) (h4:H r4=some (.cells 34 [iV e.op,sV e.name,encS exE e.kids] 0)) (h5:H r5=some (.cells 150 [envC p.funs vs ns] 0)) :
 ZU Try.prog 61 [ptrV r4 0,ptrV r3 0,ptrV r5 0] H (McL p.funs m1 m2 r fu d H (listG ev d ns vs c e.kids)):=by
 refine Zdh ?_;refine ZK fd61 (by simp) ?_;delta c61 Zq Zd Zb Ze;obtain ⟨X,hX⟩:∃ X,X=listG ev d ns vs c e.kids:=⟨_,rfl⟩
 rw [← hX];replace hX:=Zo8 hX;obtain ⟨e1,e2⟩:=Jm p.funs vs ns;have n3:¬ r=r3∧¬ r3=r:=⟨fun h=>by subst h; rw [hm.1] at h3; simp [mB] at h3,fun h=>by subst h; rw [hm.1] at h3; simp [mB] at h3⟩
 have n4:¬ r=r4∧¬ r4=r:=⟨fun h=>by subst h; rw [hm.1] at h4; simp [mB] at h4,fun h=>by subst h; rw [hm.1] at h4; simp [mB] at h4⟩
 have n5:¬ r=r5∧¬ r5=r:=⟨fun h=>by subst h; rw [hm.1] at h5; simp [mB] at h5,fun h=>by subst h; rw [hm.1] at h5; simp [mB] at h5⟩
 (repeat' (first | (simp only [↓ZF,ZG,ptrV,intV,Zo5,Zo7,reduceCtorEq,ZJ,Zo9,undef,ZW,Yk,ZZ, *])))
 refine ZY (fun _ _ _ h=>h) (fun A H'=>A.d=[]∧A.t 0=ptrV r4 0∧A.t 1=ptrV r3 0∧A.t 2=ptrV r5 0∧A.t 8=exsV e.kids∧A.t 9=iV e.kids.length∧∃ (i:Nat) (c':Int) (l:List Val) (Hb:AH),i≤e.kids.length∧A.t 10=iV i∧l.length=i∧YO p l∧c≤c'∧c'≤fu∧SubH (H.set r (mB m1 m2 fu c' d)) Hb∧OwnX Hb H' 125 1 (A.t 4) i (encC (valE p.funs) l)∧X=appL l (listG ev d ns vs c' (e.kids.drop i)))
  (fun A _=>match A.t 10 with | .lit (.int _ i)=>((e.kids.length:Int)-i).toNat | _=>0) ?_ ?_
 ·refine ⟨rfl,(by simp only [ZI,Zo5,if_false, *]<;>rfl),(by simp only [ZI,Zo5,if_false, *]<;>rfl),(by simp only [ZI,Zo5,if_false, *]<;>rfl),(by simp only [ZI,Zo5,if_true,if_false, *]<;>rfl),(by simp only [ZI,Zo5,if_true,if_false, *]<;>rfl),0,c,[],H,by omega,(by simp only [ZI,Zo5,if_true,if_false, *]<;>rfl),rfl,trivial,by omega,hc.2,by rw [Zap hm.1]; exact Zpa _,?_,by rw [appL_nil]; exact hX.out⟩;simp only [ZI,Zo5,if_true,if_false];exact OwnX.nil _ _ _
 ·clear hX;rintro ⟨t,d'⟩ H' ⟨rfl,h0,h1,h2,h8,h9,i,c',l,Hb,hi,h10,hl,hlo,hcc,hcf,hs,ho,hX⟩;dsimp only at h0 h1 h2 h8 h9 h10 ho;have hsub:=hs.trans ho.sub;have k3:H' r3=some (.cells 121 [ptrV r 0] 0):=hsub _ _ (by rw [Zpg _ _ n3.2]; exact h3);have k4:H' r4=some (.cells 34 [iV e.op,sV e.name,encS exE e.kids] 0):=hsub _ _ (by rw [Zpg _ _ n4.2]; exact h4);have k5:H' r5=some (.cells 150 [envC p.funs vs ns] 0):=hsub _ _ (by rw [Zpg _ _ n5.2]; exact h5);have hM:MacAt p m1 m2 r fu c' d Hb:=(hm.set (c':=c') (d':=d)).mono hs;delta b61_1 Zn Zr Zk Zb Zi Zg Za Zo Zq Zl Zc Zm;by_cases hlt:i<e.kids.length
  ·have hil:(i:Int)<(e.kids.length:Int):=by omega
   have hdi:=WL hlt;obtain ⟨z1,z2,z3,z4⟩:=hk _ (Zpk hlt);have hcl:=fun H (h:MacAt p m1 m2 r fu c' d H)=>hev c' d e.kids[i] ns vs H ⟨z1,z2,z3,hen,by omega,hcf⟩ (by omega) hd.1 hd.2 h
   have hpr':=hpr c' d e.kids[i] ns vs;have hgd:Zbp p fu c' e.kids[i] ns vs:=⟨z1,z2,z3,hen,by omega,hcf⟩
   rw [Zmm hlt] at hX;clear hev hpr hk z1 z2 z3 z4;have hXe:∀ k,ev c' d e.kids[i] ns vs=.error k→X=.error k:=fun k h=>by rw [hX,h]; rfl
   have hXo:∀ c2 v,ev c' d e.kids[i] ns vs=.ok (c2,v)→X=appL (l++[v]) (listG ev d ns vs c2 (e.kids.drop (i+1))):=fun c2 v h=>by
    rw [hX,h];dsimp only;cases listG ev d ns vs c2 (e.kids.drop (i+1)) with
    | error k=>rfl
    | ok x=>simp [appL]
   clear hX
   (repeat' (first | (simp only [↓ZF,ZG,ptrV,Zo5,Zo7,Zpd,setAt,Zo9,Ye,Zci,Zdv,YE,Yc,ZZ,ZoP, *]) | (refine ZH fun zr zh=>?_; have zg:=zh; (try simp only [Zpb] at zg); (try have zn_k3:=Zo6 k3 zh); (try have zn_k3:=Zo6 k3 zg.2); (try have zn_k3:=Zo6 k3 zg.2.2); (try have zn_k4:=Zo6 k4 zh); (try have zn_k4:=Zo6 k4 zg.2); (try have zn_k4:=Zo6 k4 zg.2.2); (try have zn_k5:=Zo6 k5 zh); (try have zn_k5:=Zo6 k5 zg.2); (try have zn_k5:=Zo6 k5 zg.2.2))))
   refine Zgt (hcl _ ((hM.mono ho.sub).mono (Zph zh))) (fun c2 v hR=>?_) (fun k c2 d2 hR=>?_)
   ·have hX2:=hXo _ _ hR;obtain ⟨g1,g2,g3⟩:=hpr' _ _ hgd hR;obtain ⟨o1,o2⟩:=Wt p.funs v;have hzb:Hb zr=none:=ho.sub.none zh
    have hs2:SubH (H.set r (mB m1 m2 fu c2 d)) ((Hb.set zr (.cells 34 [iV e.kids[i].op,sV e.kids[i].name,encS exE e.kids[i].kids] 0)).set r (mB m1 m2 fu c2 d)):=by
     have:=ZpG (hs.of_set (b:=.cells 34 [iV e.kids[i].op,sV e.kids[i].name,encS exE e.kids[i].kids] 0) (hs.none hzb)) r (mB m1 m2 fu c2 d)
     rwa [ZpA] at this
    have ho2:=(ho.alloc zh (.cells 34 [iV e.kids[i].op,sV e.kids[i].name,encS exE e.kids[i].kids] 0)).put (show (Hb.set zr _) r=some (mB m1 m2 fu c' d) by rw [Zpg _ _ (Zo6 hM.1 hzb).1]; exact hM.1) (mB m1 m2 fu c2 d);have hlo2:YO p (l++[v]):=WC.2 ⟨hlo,g1,trivial⟩;replace hX2:=Zo8 hX2;clear hR hXo hXe hpr' hcl ho zh zg
    (repeat' (first | (simp only [↓ZF,ZG,Zo5,Zo7,Zpo,fillV,setAt,ZN,ZN,YA,Jx, *])))
    refine XJ YA Jx rfl (by omega) ho2 rfl (by simp [o2]) (by omega) (by omega) (fun v' H'' ho3=>?_);have c6:=ho3.cells.1;have c7:=ho3.cells.2
    (repeat' (first | (simp only [↓ZF,ZG,ptrV,Zo5,Zo7,reduceCtorEq, *]) | (with_reducible refine And.intro ?_ ?_)))
    all_goals rw [ZO (n:=(i:Int)+1) (by omega) (by omega)]
    ·exact ⟨i+1,c2,l++[v],_,by omega,rfl,by simp [hl],hlo2,by omega,g3,hs2,by rw [Yu]; exact ho3,hX2.out⟩
    ·omega
   ·have hX2:=hXe _ hR;rw [hX2];clear hR hXo hXe hpr' hcl
    (repeat' (first | (simp only [↓ZF, *])))
    refine ⟨rfl,_,Zpa _,H.set r (mB m1 m2 fu c2 d2),?_,.inr ⟨k,c2,d2,rfl,rfl,rfl⟩⟩
    have:=ZpG (hsub.of_set (b:=.cells 34 [iV e.kids[i].op,sV e.kids[i].name,encS exE e.kids[i].kids] 0) (hsub.none zh)) r (mB m1 m2 fu c2 d2)
    rwa [ZpA] at this
  ·have hil:¬ (i:Int)<(e.kids.length:Int):=by omega
   rw [ZpC (by omega),listG] at hX;have hX:X=.ok (c',l):=by rw [hX]; simp [appL]
   rw [hX];have ho1:=ho.cells.1;have ho2:=ho.cells.2;have hg:=GhV.back ho hs;rw [← hl] at hg;replace hg:=Zo8 hg;clear ho
   (repeat' (first | (simp only [↓ZF,ZG,ptrV,Zo7, *]) | (refine Ya rfl (fun _ _ _ h=>h) ?_)))
   delta c61_1 Za Zc
   (repeat' (first | (simp only [↓ZF,ZG,Zo5,Zo7, *]) | (refine ZM ?_)))
   exact ⟨_,_,hg.out,.inl ⟨c',l,rfl,rfl,rfl⟩⟩
end Go.PV.Ytglpmlbbaedbiaa
end
section
open List renaming getElem?_eq_getElem→ZpP,getElem_mem→Zpk
set_option maxRecDepth 20000
set_option maxHeartbeats 4000000
namespace Go.PV.Ytglpmlbbaedbiaa
open Go Go.Proofs
theorem Zm2 {p:Pr} (hnd:NdP p) {s:ByteArray} (h:0≤atFu p.funs s):∃ j,∃ hj:j<p.funs.length,atFu p.funs s=j∧arFu p.funs s=p.funs[j].arity∧funMk p.funs p.funs.length s=some (.iptr (sV p.funs[j].name::iV p.funs[j].arity::clsV p.funs[j].cls::encC fuE (p.funs.drop (j+1)))):=by
 rcases ZhJ hnd.funs s with ⟨h1,_⟩ | ⟨j,hj,h1,h2,h3⟩
 ·omega
 ·refine ⟨j,hj,h1,?_,by rw [h3,Jg hj]⟩;unfold arFu;rw [h1]; simp [hj]
theorem Zff {p:Pr}:∀ {ns:List ByteArray} {vs:List Val} {s:ByteArray},ns.length=vs.length→YO p vs→s∈ns→∃ v,findV ns vs s=some v∧v.ok p
 | [],vs,s,hl,hv,hs=>by cases hs
 | n::ns,[],s,hl,hv,hs=>by simp at hl
 | n::ns,v::vs,s,hl,hv,hs=>by
   rw [findV];by_cases h:n=s
   ·exact ⟨v,if_pos h,hv.1⟩
   ·rw [if_neg h];exact Zff (by simpa using hl) hv.2 ((List.mem_cons.1 hs).resolve_left (fun e=>h e.symm))
theorem Zfg {p:Pr} {e:Ex} {b:List ByteArray} (h:e.sdF p b=0):(e.op=1∧e.name∈b)∨(e.op=5∧∃ k,e.kids=[k]∧k.sdF p (b++[e.name])=0)∨(e.op=2∧0≤atFu p.funs e.name)∨(e.op=3∧∀ k∈e.kids,k.sdF p b=0)∨(e.op=4∧2≤e.kids.length∧∀ k∈e.kids,k.sdF p b=0):=by
 obtain ⟨h1,h2⟩:=Xn.1 h;obtain ⟨g1,g2,g3,g4⟩:=XT.1 h1;unfold formB at g1;by_cases o1:e.op=1
 ·exact .inl ⟨o1,g4 o1⟩
 ·by_cases o2:e.op=2
  ·exact .inr (.inr (.inl ⟨o2,g2 o2⟩))
  ·rw [if_neg (by omega)] at g1;by_cases o5:e.op=5
   ·rw [if_pos o5] at g1;rw [if_pos o5] at h2;have hk:e.kids.length=1:=by simp at g1; omega
    obtain ⟨k,hk⟩:=List.length_eq_one_iff.1 hk;exact .inr (.inl ⟨o5,k,hk,h2 k (by rw [hk]; simp)⟩)
   ·rw [if_neg o5] at g1 h2;by_cases o4:e.op=4
    ·rw [if_pos o4] at g1;exact .inr (.inr (.inr (.inr ⟨o4,by simp at g1; omega,h2⟩)))
    ·rw [if_neg o4] at g1;by_cases o3:e.op=3
     ·exact .inr (.inr (.inr (.inl ⟨o3,h2⟩)))
     ·rw [if_neg o3] at g1; cases g1
theorem ZhS (p:Pr) (fu:Int) (g:Nat) (c d:Int) (e:Ex) (ns:List ByteArray) (vs:List Val):evG p fu (g+1) c d e ns vs =
 if e.op=1 then (match findV ns vs e.name with | some v=>.ok (c,v) | none=>.error 0)
 else if e.op=5 then .ok (c,.clo e.name (e.kids.headD zEx) ns vs)
 else if e.op=2 then (if 0<arFu p.funs e.name then .ok (c,.part (atFu p.funs e.name).toNat []) else callG p fu (evG p fu g) c d (atFu p.funs e.name).toNat [])
 else match listG (evG p fu g) d ns vs c e.kids with
  | .error k=>.error k
  | .ok (c',l)=>if e.op=3 then .ok (c',.built e.name l) else match l with
    | v::l=>appG p fu (evG p fu g) l.length c' d v l
    | []=>.error 0:=rfl
theorem ZcX {p:Pr} (hp:PgR p) {fu:Int}:∀ g:Nat,ZdS p fu (evG p fu g)
 | 0,c,d,e,ns,vs,c',v,hg,h=>by cases h
 | g+1,c,d,e,ns,vs,c',v,hg,h=>by
   have ih:=ZcX hp (fu:=fu) g;have hz:=e.sz_eq;have hz5:=hg.sz;have hkn:=(Ex.nmOk_iff.1 hg.nm).2;have hkl:=YL e.kids;rw [ZhS] at h;rcases Zfg hg.sd with ⟨ho,hn⟩ | ⟨ho,k,hk,hks⟩ | ⟨ho,ha⟩ | ⟨ho,hk⟩ | ⟨ho,hk2,hk⟩
   ·obtain ⟨w,hw,hwo⟩:=Zff hg.env.1 hg.env.2 hn;rw [if_pos ho] at h;rw [hw] at h;cases h;exact ⟨hwo,Int.le_refl _,hg.cf⟩
   ·rw [if_neg (by omega),if_pos ho,hk] at h;cases h
    have hl5:(Ex.mk 5 e.name [k]).sdF p ns=0:=by
     have:=hg.sd
     cases e;simp only [Ex.op,Ex.kids] at ho hk;subst ho; subst hk;exact this
    refine ⟨⟨⟨hg.env.1,hl5,?_,hkn k (by rw [hk]; simp),(Ex.nmOk_iff.1 hg.nm).1⟩,hg.env.2⟩,Int.le_refl _,hg.cf⟩
    have:=ZX (l:=e.kids) (e:=k) (by rw [hk]; simp)
    show k.sz≤5000;omega
   ·rw [if_neg (by omega),if_neg (by omega),if_pos ho] at h;obtain ⟨j,hj,ha1,ha2,_⟩:=Zm2 hp.nd ha;have hA:arAt p j=p.funs[j].arity:=by unfold arAt; rw [ZpP hj]
    have hA0:=hp.ar _ (Zpk hj);rw [ha1] at h;split at h
    ·rename_i hlt;cases h;refine ⟨⟨⟨hj,by simp,?_⟩,trivial⟩,Int.le_refl _,hg.cf⟩
     change ((([]:List Val).length:Nat):Int)<arAt p j
     rw [hA,← ha2]; simpa using hlt
    ·rename_i hlt;obtain ⟨g1,g2,g3⟩:=Zfe hp ih (us:=[]) (j:=j) trivial (by rw [hA]; simp; omega) ⟨hg.c0,hg.cf⟩ h;exact ⟨g1,by omega,g3⟩
   ·rw [if_neg (by omega),if_neg (by omega),if_neg (by omega)] at h;split at h
    ·cases h
    ·rename_i c1 l hl;obtain ⟨g1,g2,g3,g4⟩:=ZcW ih hg.env e.kids c c1 l (fun k hk'=>⟨hk k hk',hkn k hk',by have:=ZX hk'; omega⟩) ⟨hg.c0,hg.cf⟩ hl;rw [if_pos ho] at h;cases h;exact ⟨⟨by omega,g1⟩,g3,g4⟩
   ·rw [if_neg (by omega),if_neg (by omega),if_neg (by omega)] at h;split at h
    ·cases h
    ·rename_i c1 l hl;obtain ⟨g1,g2,g3,g4⟩:=ZcW ih hg.env e.kids c c1 l (fun k hk'=>⟨hk k hk',hkn k hk',by have:=ZX hk'; omega⟩) ⟨hg.c0,hg.cf⟩ hl;rw [if_neg (by omega)] at h;cases l with
     | nil=>cases h
     | cons w l =>
       obtain ⟨g5,g6,g7⟩:=ZjV hp ih _ c1 w l c' v g1.1 g1.2 (by simp at g2; omega) (by have:=hg.c0; omega) h;exact ⟨g5,by omega,g7⟩
end Go.PV.Ytglpmlbbaedbiaa
end
section
open List renaming map_cons→Zpp
set_option maxRecDepth 20000
set_option maxHeartbeats 4000000
namespace Go.PV.Ytglpmlbbaedbiaa
open Go Go.Proofs
mutual
def Ex.putM (m:Bool):Ex→List Bd→Ex
 | .mk op n ks,l=>if m=true∧op=9 then .mk op n ks else match (if op=1 then lastB l n else none) with
   | some e=>if m=true then .mk 9 { data:=#[] } [e] else e
   | none=>.mk op n (ZdU m ks (if op=5 then l.filter (fun b=>!decide (b.1=n)) else l))
def ZdU (m:Bool):List Ex→List Bd→List Ex
 | [],_=>[]
 | k::ks,l=>k.putM m l::ZdU m ks l
end
theorem Zhf (m:Bool):∀ (ks:List Ex) (l:List Bd),ZdU m ks l=ks.map (·.putM m l)
 | [],_=>rfl
 | k::ks,l=>by rw [ZdU,Zpp,Zhf m ks l]
theorem Ex.putM_eq (m:Bool) (e:Ex) (l:List Bd):e.putM m l=if m=true∧e.op=9 then e else match (if e.op=1 then lastB l e.name else none) with
 | some x=>if m=true then .mk 9 { data:=#[] } [x] else x
 | none=>.mk e.op e.name (e.kids.map (·.putM m (if e.op=5 then l.filter (fun b=>!decide (b.1=e.name)) else l))):=by
 cases e; rw [Ex.putM,Zhf]; rfl
mutual
theorem Ex.putM_false:∀ (e:Ex) (l:List Bd),e.putM false l=e.put l
 | .mk op n ks,l=>by
   rw [Ex.putM,Ex.put,if_neg (by simp),ZdV ks]
   split<;>simp_all
theorem ZdV:∀ (ks:List Ex) (l:List Bd),ZdU false ks l=ZdL ks l
 | [],l=>rfl
 | k::ks,l=>by rw [ZdU,ZdL,Ex.putM_false k l,ZdV ks l]
end
mutual
def Ex.wd:Ex→Prop
 | .mk _ _ ks=>ks.length≤1099511627776∧exsWd ks
def exsWd:List Ex→Prop
 | []=>True
 | k::ks=>k.wd∧exsWd ks
end
end Go.PV.Ytglpmlbbaedbiaa
end
section
open List renaming drop_eq_getElem_cons→ZpI
namespace Go.PV.Ytglpmlbbaedbiaa
open Go Go.Proofs
def JJ (p:Pr) (j:Nat):ByteArray:=match p.funs[j]? with | some f=>f.name | none=>noNm
def bdL (ns:List ByteArray) (es:List Ex):List Bd:=(ns.zip es).reverse
abbrev outB (x:ByteArray) (l:List Bd):List Bd:=l.filter (fun b=>!decide (b.1=x))
mutual
def Val.ex (p:Pr):Val→Ex
 | .built n ks=>.mk 3 n (Xq p ks)
 | .clo x b ns vs=>.mk 5 x [b.putM true (outB x (bdL ns (Xq p vs)))]
 | .part j us=>if us.length=0 then .mk 2 (JJ p j) [] else .mk 4 noNm (.mk 2 (JJ p j) []::Xq p us)
def Xq (p:Pr):List Val→List Ex
 | []=>[]
 | v::l=>v.ex p::Xq p l
end
theorem Zcf (p:Pr):∀ l:List Val,Xq p l=l.map (Val.ex p)
 | []=>rfl
 | v::l=>by rw [Xq,Zcf p l]; rfl
theorem Zep (p:Pr) (l:List Val):(Xq p l).length=l.length:=by rw [Zcf,List.length_map]
mutual
def Ex.full:Ex→Nat
 | .mk op _ ks=>if op=9 then exsHd ks else 1+XC ks
def exsHd:List Ex→Nat
 | []=>0
 | k::_=>k.full
def XC:List Ex→Nat
 | []=>0
 | k::ks=>k.full+XC ks
end
theorem Ex.full_eq (e:Ex):e.full=if e.op=9 then exsHd e.kids else 1+XC e.kids:=by cases e; rw [Ex.full]; rfl
theorem ZeM {l:List Ex} {i:Nat} (h:i<l.length):XC (l.drop i)=l[i].full+XC (l.drop (i+1)):=by rw [ZpI h,XC]
structure TL (a:Int) (n:Nat) (b:Int):Prop where
 neg:a<0→b=a
 le:0≤a→(n:Int)≤a→b=a-n
 gt:0≤a→a<n→b<0
 lo : -2≤b
 hi:b≤a
theorem TL.zero {a:Int} (h : -2≤a):TL a 0 a:=⟨fun _=>rfl,fun _ _=>by simp,fun h1 h2=>by simp at h2; omega,h,Int.le_refl _⟩
theorem TL.trans {a b c:Int} {n m:Nat} (h:TL a n b) (k:TL b m c):TL a (n+m) c:=by
 obtain ⟨h1,h2,h3,h4,h5⟩:=h;obtain ⟨k1,k2,k3,k4,k5⟩:=k;refine ⟨fun h=>?_,fun h0 h=>?_,fun h0 h=>?_,k4,by omega⟩
 ·rw [k1 (by rw [h1 h]; exact h),h1 h]
 ·have:=h2 h0 (by omega)
  have:=k2 (by omega) (by omega)
  omega
 ·by_cases hn:(n:Int)≤a
  ·have:=h2 h0 hn
   exact k3 (by omega) (by omega)
  ·have:=h3 h0 (by omega)
   have:=k1 this
   omega
theorem TL.one {a:Int} (h:0≤a):TL a 1 (a-1):=⟨fun _=>by omega,fun _ _=>by simp,fun _ h=>by simp at h; omega,by omega,by omega⟩
theorem TL.two {a:Int} (h:0≤a):TL a 2 (a-1-1):=⟨fun _=>by omega,fun _ _=>by simp; omega,fun _ h=>by simp at h; omega,by omega,by omega⟩
theorem TL.stop {a:Int} {n:Nat} (h:a<0) (h2 : -2≤a):TL a n a:=⟨fun _=>rfl,fun h0=>by omega,fun h0=>by omega,h2,Int.le_refl _⟩
def EnvR (p:Pr) (eo:EnvO) (l:List Bd):Prop:=∀ s,lastB l s=(eoF eo s).map (Val.ex p)
theorem ZfT (x s:ByteArray) (l:List Bd):lastB (outB x l) s=if s=x then none else lastB l s:=by
 unfold lastB outB;rw [← List.filter_reverse]
 induction l.reverse with
 | nil=>simp
 | cons b m ih =>
   rw [List.filter_cons,List.find?_cons];by_cases h1:b.1=x
   ·rw [if_neg (by simp [h1]),ih];by_cases h2:s=x
    ·simp [h2]
    ·rw [if_neg h2,if_neg h2]
     have:decide (b.1=s)=false:=by simp; intro h; exact h2 (by rw [← h,h1])
     rw [this]
   ·rw [if_pos (by simp [h1]),List.find?_cons];by_cases h3:b.1=s
    ·have:decide (b.1=s)=true:=by simp [h3]
     rw [this];have h2:¬ s=x:=fun h=>h1 (by rw [h3,h])
     rw [if_neg h2]
    ·have:decide (b.1=s)=false:=by simp [h3]
     rw [this];exact ih
theorem EnvR.lam {p:Pr} {eo:EnvO} {l:List Bd} (h:EnvR p eo l) (x:ByteArray):EnvR p ((x,none)::eo) (outB x l):=fun s=>by
 rw [ZfT];show _=Option.map _ (if x=s then none else eoF eo s);by_cases hx:s=x
 ·rw [if_pos hx,if_pos hx.symm]; rfl
 ·rw [if_neg hx,if_neg (fun e=>hx e.symm),h s]
theorem EnvR.of (p:Pr):∀ (ns:List ByteArray) (vs:List Val),EnvR p (eoOf ns vs) (bdL ns (Xq p vs)):=by
 have:∀ (ns:List ByteArray) (vs:List Val) (s:ByteArray),((ns.zip (Xq p vs)).find? fun b=>decide (b.1=s)).map (·.2)=(eoF (eoOf ns vs) s).map (Val.ex p):=by
  intro ns
  induction ns with
  | nil=>intro vs s; cases vs<;>rfl
  | cons n ns ih =>
    intro vs s;cases vs with
    | nil=>rfl
    | cons v vs =>
      rw [Xq,List.zip_cons_cons,List.find?_cons];show _=Option.map _ (if n=s then some v else eoF (eoOf ns vs) s);by_cases h:n=s
      ·rw [show decide ((n,v.ex p).1=s)=true by simp [h],if_pos h]; rfl
      ·rw [show decide ((n,v.ex p).1=s)=false by simp [h],if_neg h]; exact ih vs s
 intro ns vs s;unfold lastB bdL;rw [List.reverse_reverse];exact this ns vs s
theorem full_put {e:Ex} (h9:¬ e.op=9) (l:List Bd):(e.putM true l).full=match (if e.op=1 then lastB l e.name else none) with
 | some x=>x.full
 | none=>1+XC (e.kids.map (·.putM true (if e.op=5 then outB e.name l else l))):=by
 rw [Ex.putM_eq,if_neg (fun h=>h9 h.2)];cases (if e.op=1 then lastB l e.name else none) with
 | some x=>dsimp only; rw [if_pos rfl,Ex.full_eq]; rfl
 | none=>dsimp only; rw [Ex.full_eq]; exact if_neg h9
end Go.PV.Ytglpmlbbaedbiaa
end
section
open Bool renaming and_eq_true→ZpM,false_eq_true→ZpT
open Int renaming toNat_natCast→ZpW
open List renaming append_assoc→Zqc,length_cons→Zpx,cons_append→Zp6
open Nat renaming lt_succ_self→Zp8,le_refl→Zpl,zero_add→Zpu
namespace Go.PV.Ytglpmlbbaedbiaa
open Go Go.Proofs
def Cld (p:Pr) (e:Ex):Prop:=e.sdF p []=0∧e.nmOk
theorem Cld.kid {p:Pr} {e k:Ex} (h:Cld p e) (h5:¬ e.op=5) (hk:k∈e.kids):Cld p k:=by
 have h1:=(Xn.1 h.1).2 k hk;rw [if_neg h5] at h1;exact ⟨h1,(Ex.nmOk_iff.1 h.2).2 k hk⟩
theorem Cld.flat {p:Pr} {e:Ex} (h:Cld p e):Cld p e.flat:=⟨Zfu h.1,ZnK h.2⟩
structure Pg (p:Pr):Prop where
 pg:PgR p
 bd:∀ f∈p.funs,BdOk p f
 ce:∀ f∈p.funs,WI f.arity f.cls=0
theorem check_ce {p:Pr} (h:Jh p=0):∀ f∈p.funs,WI f.arity f.cls=0:=fun f hf=>by
 obtain ⟨_,_,_,h4⟩:=Za5 h;have hc:=JW h4 f hf
 have:∀ l:List Cl,(∀ c∈l,clErr p f c=0)→WI f.arity l=0:=by
  intro l
  induction l with
  | nil=>intro _; rfl
  | cons c l ih =>
    intro hl;obtain ⟨h5,h6,h7,_⟩:=Zen (hl c (by simp));rw [Zb2 h6] at h7;rw [WI,if_pos h5,if_pos h7];exact ih fun c hc=>hl c (by simp [hc])
 exact this _ hc
theorem Zox {p:Pr} (h:Jh p=0) (hp:PrOk p):Pg p:=⟨ZhQ h hp,ZhN h hp,check_ce h⟩
theorem Zfw {p:Pr} (hp:∀ f∈p.funs,BdOk p f) {e:Ex} (h:Cld p e) (hv:e.isV p=false) (hs:(stepF p e).2=0):Cld p (stepF p e).1:=by
 have:=Zeo hp (M:=e.sz) (e.sz+1) e (Zp8 _) ⟨h.1,h.2,Zpl _⟩ hv hs
 exact ⟨this.1,this.2.1⟩
def Rd (p:Pr):Nat→Ex→Ex→Prop
 | 0,e,e'=>e=e'
 | n+1,e,e'=>e.isV p=false∧(stepF p e).2=0∧Rd p n (stepF p e).1 e'
theorem Rd.trans {p:Pr}:∀ {n m:Nat} {e f g:Ex},Rd p n e f→Rd p m f g→Rd p (n+m) e g
 | 0,m,e,f,g,h,k=>by obtain rfl:=h; rwa [Zpu]
 | n+1,m,e,f,g,h,k=>by
   rw [Nat.add_right_comm];exact ⟨h.1,h.2.1,Rd.trans h.2.2 k⟩
theorem Rd.cl {p:Pr} (hp:∀ f∈p.funs,BdOk p f):∀ {n:Nat} {e f:Ex},Rd p n e f→Cld p e→Cld p f
 | 0,e,f,h,k=>by obtain rfl:=h; exact k
 | n+1,e,f,h,k=>Rd.cl hp h.2.2 (Zfw hp k h.1 h.2.1)
theorem Rd.one {p:Pr} {e:Ex} {x:Ex × Int} (hv:e.isV p=false) (hx:stepF p e=x) (h0:x.2=0):Rd p 1 e x.1:=⟨hv,by rw [hx]; exact h0,by rw [hx]; rfl⟩
theorem Rd.det {p:Pr}:∀ {n m:Nat} {e f g:Ex},Rd p n e f→Rd p (n+m) e g→Rd p m f g
 | 0,m,e,f,g,h,k=>by obtain rfl:=h; rwa [Zpu] at k
 | n+1,m,e,f,g,h,k=>by
   rw [Nat.add_right_comm] at k;exact Rd.det h.2.2 k.2.2
theorem Zeq {k:Ex} {r:List Ex} {nm:ByteArray} (h:¬ k.op=4):(Ex.mk 4 nm (k::r)).inner=none:=by
 show (if (4:Int)=4 then (if k.op=4 then some (k,r) else none) else none)=none;rw [if_pos rfl,if_neg h]
theorem Zlz {k:Ex} {r:List Ex} {nm:ByteArray} (h:k.op=4):(Ex.mk 4 nm (k::r)).inner=some (k,r):=by
 show (if (4:Int)=4 then (if k.op=4 then some (k,r) else none) else none)=_;rw [if_pos rfl,if_pos h]
theorem ZlA {p:Pr}:∀ (n:Nat) (k:Ex) (r:List Ex),k.sz≤n→k.op=4→k.sdF p []=0→(Ex.mk 4 noNm (k.kids++r)).flat=.mk 4 noNm (k.flat.kids++r)
 | 0,k,r,h,_,_=>by have:=k.sz_pos; omega
 | n+1,k,r,h,h4,hk=>by
   obtain ⟨hn,a,b,l,hkk⟩:=ZdN hk h4;by_cases ha:a.op=4
   ·have hi:k.inner=some (a,b::l):=by unfold Ex.inner; rw [if_pos h4,hkk]; exact if_pos ha
    have hi2:(Ex.mk 4 noNm (k.kids++r)).inner=some (a,b::l++r):=by
     rw [hkk];exact Zlz ha
    have hz:=Ex.inner_sz hi;rw [Ex.flat_some hi,Ex.flat_some hi2,← Zqc];exact ZlA n (.mk 4 noNm (a.kids++b::l)) r (by omega) rfl (ZhL hi hk)
   ·have hi:k.inner=none:=by unfold Ex.inner; rw [if_pos h4,hkk]; exact if_neg ha
    rw [Ex.flat_none hi];refine Ex.flat_none ?_;rw [hkk];exact Zeq ha
def hdK (h:Ex):List Ex:=if h.op=4 then h.flat.kids else [h]
theorem Zjc {p:Pr} {h:Ex} (hc:h.sdF p []=0) (r:List Ex):(Ex.mk 4 noNm (h::r)).flat=.mk 4 noNm (hdK h++r):=by
 unfold hdK;by_cases h4:h.op=4
 ·rw [if_pos h4];have hi:(Ex.mk 4 noNm (h::r)).inner=some (h,r):=Zlz h4;rw [Ex.flat_some hi];exact ZlA _ h r (Zpl _) h4 hc
 ·rw [if_neg h4];exact Ex.flat_none (Zeq h4)
theorem Zfh {p:Pr} {h:Ex} (hc:h.sdF p []=0) (hv:h.isV p=true):∃ f l,hdK h=f::l∧¬ f.op=4∧(∀ x∈f::l,x.isV p=true)∧(l=[]∨(f.op=2∧(l.length:Int)<arFu p.funs f.name))∧(¬ h.op=4→f=h∧l=[]):=by
 unfold hdK;by_cases h4:h.op=4
 ·rw [if_pos h4];rw [h.isV_eq,if_neg (by omega),if_neg (by omega),if_neg (by omega),if_pos h4] at hv;obtain ⟨_,f,a,l,hk⟩:=ZdN (Zfu hc) (h.flat_op h4);rw [hk] at hv ⊢;simp only [ZpM,decide_eq_true_eq] at hv;obtain ⟨h2,h3,h5⟩:=hv
  have hf2:f.isV p=true:=by
   rw [f.isV_eq,if_neg (by omega),if_pos h2];simp only [Zpx] at h3;exact decide_eq_true (by omega)
  refine ⟨f,a::l,rfl,by omega,fun x hx=>?_,.inr ⟨h2,h3⟩,fun h=>absurd h4 h⟩;rcases List.mem_cons.1 hx with rfl | hx
  ·exact hf2
  ·exact List.all_eq_true.1 h5 x hx
 ·rw [if_neg h4];exact ⟨h,[],rfl,h4,fun x hx=>by rw [List.mem_singleton.1 hx]; exact hv,.inl rfl,fun _=>⟨rfl,rfl⟩⟩
theorem flat_hd {p:Pr} {h:Ex} (hc:h.sdF p []=0) (hv:h.isV p=true) (r:List Ex):(Ex.mk 4 noNm (hdK h++r)).flat=.mk 4 noNm (hdK h++r):=by
 obtain ⟨f,l,h1,h2,_⟩:=Zfh hc hv;rw [h1];exact Ex.flat_none (Zeq h2)
def Ap (e h:Ex) (l:List Ex):Prop:=e=.mk 4 noNm (h::l)∨e=.mk 4 noNm (hdK h++l)
theorem Ap.op {e h:Ex} {l:List Ex} (ha:Ap e h l):e.op=4:=by rcases ha with rfl | rfl<;>rfl
theorem Ap.flat {p:Pr} {e h:Ex} {l:List Ex} (ha:Ap e h l) (hc:h.sdF p []=0) (hv:h.isV p=true):e.flat=.mk 4 noNm (hdK h++l):=by
 rcases ha with rfl | rfl
 ·exact Zjc hc l
 ·exact flat_hd hc hv l
theorem Ap.pre {p:Pr} {e h:Ex} {l:List Ex} (ha:Ap e h l) (hc:h.sdF p []=0) (hv:h.isV p=true):preE p e=.mk 4 noNm (hdK h++l):=by
 have hh:headV p e=true:=by
  rcases ha with rfl | rfl
  ·exact hv
  ·obtain ⟨f,m,h1,_,h3,_⟩:=Zfh hc hv;rw [h1];exact h3 f (by simp)
 unfold preE;rw [if_pos ⟨ha.op,hh⟩];exact ha.flat hc hv
theorem nonV_at {p:Pr} {a b:List Ex} {k:Ex} (ha:∀ x∈a,x.isV p=true) (hk:k.isV p=false):nonV p (a++k::b)=a.length:=by
 unfold nonV
 induction a with
 | nil=>unfold idxF; simp [List.findIdx?_cons,hk]
 | cons x a ih =>
   have h1:=ha x (by simp);have h2:=ih fun y hy=>ha y (by simp [hy])
   unfold idxF at h2 ⊢;rw [Zp6,List.findIdx?_cons,h1];simp only [Bool.not_true,ZpT,if_false]
   revert h2
   cases List.findIdx? (fun k=>!k.isV p) (a++k::b) with
   | none=>intro h2; simp at h2
   | some i=>intro h2; simp at h2 ⊢; exact h2
theorem ZjX {p:Pr} {e:Ex} {op:Int} {nm:ByteArray} {a b:List Ex} {k:Ex} (h2:¬ e.op=2) (hp:preE p e=.mk op nm (a++k::b)) (ha:∀ x∈a,x.isV p=true) (hk:k.isV p=false):stepF p e=(.mk op nm (a++(stepF p k).1::b),(stepF p k).2):=by
 have hn:nonV p (Ex.mk op nm (a++k::b)).kids=a.length:=nonV_at ha hk;have hg:(Ex.mk op nm (a++k::b)).kids[a.length]?=some k:=by show (a++k::b)[a.length]?=_; simp
 have hs:(Ex.mk op nm (a++k::b)).kids.set a.length (stepF p k).1=a++(stepF p k).1::b:=by show (a++k::b).set _ _=_; simp
 rw [ZbS,if_neg h2,hp,hn,if_pos (by omega),ZpW,hg];dsimp only;rw [hs]; rfl
theorem step_red {p:Pr} {e E:Ex} (h2:¬ e.op=2) (hp:preE p e=E) (ha:∀ x∈E.kids,x.isV p=true):stepF p e=redF p E:=by
 have hn:nonV p E.kids = -1:=by
  unfold nonV idxF;rw [List.findIdx?_eq_none_iff.2 fun x hx=>by simp [ha x hx]]
 rw [ZbS,if_neg h2,hp,hn,if_neg (by decide)]
end Go.PV.Ytglpmlbbaedbiaa
end
section
open Int renaming toNat_natCast→ZpW
open List renaming getElem_mem→Zpk,eq_nil_of_length_eq_zero→ZpY
namespace Go.PV.Ytglpmlbbaedbiaa
open Go Go.Proofs
theorem ZhT (n:ByteArray) (ns:List ByteArray) (x:Ex) (es:List Ex):bdL (n::ns) (x::es)=bdL ns es++[(n,x)]:=by
 unfold bdL;rw [List.zip_cons_cons,List.reverse_cons]
mutual
def Rep (p:Pr):Val→Ex→Prop
 | .built n ks,e=>Cld p e∧∃ es,e=.mk 3 n es∧Reps p ks es
 | .clo x b ns vs,e=>Cld p e∧∃ es,e=.mk 5 x [b.put (outB x (bdL ns es))]∧Reps p vs es
 | .part j us,e=>Cld p e∧(∃ f,p.funs[j]?=some f∧(us.length:Int)<f.arity)∧∃ es,((us=[]∧e=.mk 2 (JJ p j) [])∨(e.op=4∧e.flat=.mk 4 noNm (.mk 2 (JJ p j) []::es)))∧Reps p us es
def Reps (p:Pr):List Val→List Ex→Prop
 | [],es=>es=[]
 | v::vs,es=>∃ e es',es=e::es'∧Rep p v e∧Reps p vs es'
end
theorem Rep.cl {p:Pr}:∀ {v:Val} {e:Ex},Rep p v e→Cld p e
 | .built n ks,e,h=>by rw [Rep] at h; exact h.1
 | .clo x b ns vs,e,h=>by rw [Rep] at h; exact h.1
 | .part j us,e,h=>by rw [Rep] at h; exact h.1
theorem Reps.len {p:Pr}:∀ {vs:List Val} {es:List Ex},Reps p vs es→es.length=vs.length
 | [],es,h=>by rw [Reps] at h; subst h; rfl
 | v::vs,es,h=>by
   rw [Reps] at h;obtain ⟨e,es',rfl,_,h2⟩:=h;simp [Reps.len h2]
theorem Reps.cl {p:Pr}:∀ {vs:List Val} {es:List Ex},Reps p vs es→∀ e∈es,Cld p e
 | [],es,h,e,he=>by rw [Reps] at h; subst h; cases he
 | v::vs,es,h,e,he=>by
   rw [Reps] at h;obtain ⟨e',es',rfl,h1,h2⟩:=h;rcases List.mem_cons.1 he with rfl | he
   ·exact h1.cl
   ·exact Reps.cl h2 e he
theorem Reps.nil {p:Pr}:Reps p [] []:=by rw [Reps]
theorem Reps.cons {p:Pr} {v:Val} {vs:List Val} {e:Ex} {es:List Ex} (h:Rep p v e) (k:Reps p vs es):Reps p (v::vs) (e::es):=by rw [Reps]; exact ⟨e,es,rfl,h,k⟩
theorem Reps.append {p:Pr}:∀ {vs ws:List Val} {es fs:List Ex},Reps p vs es→Reps p ws fs→Reps p (vs++ws) (es++fs)
 | [],ws,es,fs,h,k=>by rw [Reps] at h; subst h; exact k
 | v::vs,ws,es,fs,h,k=>by
   rw [Reps] at h;obtain ⟨e',es',rfl,h1,h2⟩:=h;exact Reps.cons h1 (Reps.append h2 k)
theorem Reps.take {p:Pr}:∀ {vs:List Val} {es:List Ex} (n:Nat),Reps p vs es→Reps p (vs.take n) (es.take n)
 | vs,es,0,h=>by rw [List.take_zero,List.take_zero]; exact Reps.nil
 | [],es,n+1,h=>by rw [Reps] at h; subst h; exact Reps.nil
 | v::vs,es,n+1,h=>by
   rw [Reps] at h;obtain ⟨e',es',rfl,h1,h2⟩:=h;exact Reps.cons h1 (Reps.take n h2)
theorem Reps.drop {p:Pr}:∀ {vs:List Val} {es:List Ex} (n:Nat),Reps p vs es→Reps p (vs.drop n) (es.drop n)
 | vs,es,0,h=>h
 | [],es,n+1,h=>by rw [Reps] at h; subst h; exact Reps.nil
 | v::vs,es,n+1,h=>by
   rw [Reps] at h;obtain ⟨e',es',rfl,h1,h2⟩:=h;exact Reps.drop n h2
theorem ZfU {p:Pr} (hnd:NdP p) {j:Nat} {f:Fu} (h:p.funs[j]?=some f):JJ p j=f.name∧atFu p.funs f.name=j∧arFu p.funs f.name=f.arity:=by
 have h1:JJ p j=f.name:=by unfold JJ; rw [h]
 obtain ⟨hj,hf⟩:=List.getElem?_eq_some_iff.1 h
 have h2:atFu p.funs f.name=j:=by
  unfold atFu;rcases WA (fun c:Fu=>decide (c.name=f.name)) p.funs with ⟨_,h2⟩ | ⟨i,hi,h1,h2,h3⟩
  ·have:=h2 _ (Zpk hj)
   simp [hf] at this
  ·rw [h1];have hn:=List.pairwise_iff_getElem.1 hnd.funs;have he:p.funs[i].name=p.funs[j].name:=by rw [hf]; simpa using h2
   rcases Nat.lt_trichotomy i j with h | h | h
   ·exact (hn i j (by simpa using hi) (by simpa using hj) h (by rw [List.getElem_map,List.getElem_map]; exact he)).elim
   ·rw [h]
   ·exact (hn j i (by simpa using hj) (by simpa using hi) h (by rw [List.getElem_map,List.getElem_map]; exact he.symm)).elim
 refine ⟨h1,h2,?_⟩;unfold arFu;rw [h2,ZpW,h]
mutual
theorem Rep.isV {p:Pr} (hnd:NdP p):∀ {v:Val} {e:Ex},Rep p v e→e.isV p=true
 | .built n ks,e,h=>by
   rw [Rep] at h;obtain ⟨_,es,rfl,h2⟩:=h;rw [Ex.isV_eq];exact List.all_eq_true.2 (Reps.isV hnd h2)
 | .clo x b ns vs,e,h=>by
   rw [Rep] at h;obtain ⟨_,es,rfl,h2⟩:=h;rw [Ex.isV_eq]; rfl
 | .part j us,e,h=>by
   rw [Rep] at h;obtain ⟨hc,⟨f,hf,hl⟩,es,h1,h2⟩:=h;obtain ⟨g1,g2,g3⟩:=ZfU hnd hf;rw [Ex.isV_eq];rcases h1 with ⟨rfl,rfl⟩ | ⟨h4,hfl⟩
   ·show decide (0<arFu p.funs (JJ p j))=true;rw [g1,g3];exact decide_eq_true (by simpa using hl)
   ·rw [if_neg (by omega),if_neg (by omega),if_neg (by omega),if_pos h4,hfl];show (decide ((2:Int)=2) && (decide ((es.length:Int)<arFu p.funs (JJ p j)) && es.all (·.isV p)))=true;rw [g1,g3,h2.len,decide_eq_true hl,List.all_eq_true.2 (Reps.isV hnd h2)]; rfl
theorem Reps.isV {p:Pr} (hnd:NdP p):∀ {vs:List Val} {es:List Ex},Reps p vs es→∀ e∈es,e.isV p=true
 | [],es,h,e,he=>by rw [Reps] at h; subst h; cases he
 | v::vs,es,h,e,he=>by
   rw [Reps] at h;obtain ⟨e',es',rfl,h1,h2⟩:=h;rcases List.mem_cons.1 he with rfl | he
   ·exact Rep.isV hnd h1
   ·exact Reps.isV hnd h2 e he
end
theorem Rep.op3 {p:Pr} {v:Val} {e:Ex} (h:Rep p v e) (h3:e.op=3):∃ m us es,v=.built m us∧e=.mk 3 m es∧Reps p us es:=by
 cases v with
 | built m us=>rw [Rep] at h; obtain ⟨_,es,he,h2⟩:=h; exact ⟨m,us,es,rfl,he,h2⟩
 | clo x b ns vs=>rw [Rep] at h; obtain ⟨_,es,rfl,h2⟩:=h; exact absurd h3 (show ¬ (5:Int)=3 by decide)
 | part j us =>
   rw [Rep] at h;obtain ⟨_,_,es,h1,_⟩:=h;rcases h1 with ⟨_,rfl⟩ | ⟨h4,_⟩
   ·exact absurd h3 (show ¬ (2:Int)=3 by decide)
   ·omega
mutual
theorem Pa.parts_mtV (p:Pr):∀ (k:Pa) (v:Val) (x:Ex) (e:Env) (es:List Ex),Rep p v x→Reps p e.2 es→(k.parts x (bdL e.1 es)).2=(k.mtV v e).2∧((k.mtV v e).2=true→∃ es',(k.parts x (bdL e.1 es)).1=bdL (k.mtV v e).1.1 es'∧Reps p (k.mtV v e).1.2 es')
 | .mk con n ks,v,x,e,es,hx,hes=>by
   rw [Pa.parts_eq,Pa.mtV_eq];cases con with
   | true =>
     rw [if_pos (show (Pa.mk true n ks).con=true from rfl),if_pos (show (Pa.mk true n ks).con=true from rfl)];by_cases h3:x.op=3
     ·obtain ⟨m,us,xs,rfl,rfl,hr⟩:=hx.op3 h3;have hl:=hr.len;by_cases h:m=n∧us.length=ks.length
      ·rw [if_pos (show (Ex.mk 3 m xs).op=3∧(Ex.mk 3 m xs).name=(Pa.mk true n ks).name∧(Ex.mk 3 m xs).kids.length=(Pa.mk true n ks).kids.length from ⟨rfl,h.1,hl.trans h.2⟩)];show _=(if m=n∧us.length=ks.length then YW ks us e else (e,false)).2∧((if m=n∧us.length=ks.length then YW ks us e else (e,false)).2=true→∃ es',_=bdL (if m=n∧us.length=ks.length then YW ks us e else (e,false)).1.1 es'∧Reps p (if m=n∧us.length=ks.length then YW ks us e else (e,false)).1.2 es')
       rw [if_pos h];exact Zb3 p ks us xs e es h.2 hr hes
      ·rw [if_neg (show ¬ ((Ex.mk 3 m xs).op=3∧(Ex.mk 3 m xs).name=(Pa.mk true n ks).name∧(Ex.mk 3 m xs).kids.length=(Pa.mk true n ks).kids.length) from fun h'=>h ⟨h'.2.1,hl.symm.trans h'.2.2⟩)];show _=(if m=n∧us.length=ks.length then YW ks us e else (e,false)).2∧((if m=n∧us.length=ks.length then YW ks us e else (e,false)).2=true→_)
       rw [if_neg h];exact ⟨rfl,fun h=>by cases h⟩
     ·rw [if_neg (fun h=>h3 h.1)];cases v with
      | built m us=>rw [Rep] at hx; obtain ⟨_,_,rfl,_⟩:=hx; exact absurd rfl h3
      | clo x b ns vs=>exact ⟨rfl,fun h=>by cases h⟩
      | part j us=>exact ⟨rfl,fun h=>by cases h⟩
   | false =>
     rw [if_neg (show ¬ (Pa.mk false n ks).con=true from fun h=>by cases h),if_neg (show ¬ (Pa.mk false n ks).con=true from fun h=>by cases h)];refine ⟨rfl,fun _=>⟨x::es,?_,Reps.cons hx hes⟩⟩;exact (ZhT n e.1 x es).symm
theorem Zb3 (p:Pr):∀ (ks:List Pa) (us:List Val) (xs:List Ex) (e:Env) (es:List Ex),us.length=ks.length→Reps p us xs→Reps p e.2 es→(Yi ks xs (bdL e.1 es)).2=(YW ks us e).2∧((YW ks us e).2=true→∃ es',(Yi ks xs (bdL e.1 es)).1=bdL (YW ks us e).1.1 es'∧Reps p (YW ks us e).1.2 es')
 | [],us,xs,e,es,hl,hr,hes=>by
   obtain rfl:us=[]:=ZpY hl;exact ⟨rfl,fun _=>⟨es,rfl,hes⟩⟩
 | k::ks,[],xs,e,es,hl,_,_=>by simp at hl
 | k::ks,u::us,xs,e,es,hl,hr,hes=>by
   rw [Reps] at hr;obtain ⟨x,xs',rfl,h1,h2⟩:=hr;obtain ⟨g1,g2⟩:=Pa.parts_mtV p k u x e es h1 hes;rw [Yi,YW];by_cases h:(k.mtV u e).2=true
   ·rw [if_pos h];obtain ⟨es',q1,q2⟩:=g2 h;rw [show k.parts x (bdL e.1 es)=(bdL (k.mtV u e).1.1 es',true) from Prod.ext q1 (g1.trans h)];exact Zb3 p ks us xs' (k.mtV u e).1 es' (by simpa using hl) h2 q2
   ·rw [if_neg h];have hf:(k.mtV u e).2=false:=by simpa using h
    rw [show k.parts x (bdL e.1 es)=((k.parts x (bdL e.1 es)).1,false) from Prod.ext rfl (g1.trans hf)];exact ⟨rfl,fun h=>by cases h⟩
end
theorem Zhg {p:Pr} {us:List Val} {xs:List Ex} (hr:Reps p us xs):∀ (cs:List Cl) (i:Nat),(∀ c∈cs,us.length=c.pats.length)→(Wn cs us=none→(selGo xs cs i).2.2=420)∧(∀ b e,Wn cs us=some (b,e)→∃ es,(selGo xs cs i).2=(b.put (bdL e.1 es),0)∧Reps p e.2 es)
 | [],i,_=>⟨fun _=>rfl,fun b e h=>by rw [Wn] at h; cases h⟩
 | c::cs,i,hl=>by
   obtain ⟨h1,h2⟩:=Zb3 p c.pats us xs ([],[]) [] (hl c (by simp)) hr Reps.nil;rw [show bdL (([],[]):Env).1 []=[] from rfl] at h1 h2;rw [Wn,selGo,h1];by_cases h:(YW c.pats us ([],[])).2=true
   ·rw [if_pos h,if_pos h];refine ⟨(fun h=>by cases h),fun b e hb=>?_⟩;cases hb;obtain ⟨es,q1,q2⟩:=h2 h;exact ⟨es,by rw [q1],q2⟩
   ·rw [if_neg h,if_neg h];exact Zhg hr cs (i+1) fun c hc=>hl c (by simp [hc])
theorem ZkP {p:Pr} (hp:Pg p) {f:Fu} (hf:f∈p.funs) {us:List Val} {xs:List Ex} (hr:Reps p us xs) (hl:(us.length:Int)=f.arity):(Wn f.cls us=none→(Yn f xs).2.2=420)∧(∀ b e,Wn f.cls us=some (b,e)→∃ es,(Yn f xs).2=(b.put (bdL e.1 es),0)∧Reps p e.2 es):=by
 unfold Yn;rw [if_pos (by rw [hr.len]; exact hl),if_pos (hp.ce f hf)];exact Zhg hr f.cls 0 fun c hc=>by have:=((hp.pg.cls f hf).2 c hc).1; omega
end Go.PV.Ytglpmlbbaedbiaa
end
section
open Bool renaming and_self→Zp3
open List renaming append_nil→Zp2
namespace Go.PV.Ytglpmlbbaedbiaa
open Go Go.Proofs
theorem ZfV (l:List Bd) (x s:ByteArray) (y:Ex):lastB (l++[(x,y)]) s=if x=s then some y else lastB l s:=by
 unfold lastB;rw [List.reverse_append,List.reverse_singleton,List.singleton_append,List.find?_cons];by_cases h:x=s
 ·rw [if_pos h,show decide ((x,y).1=s)=true by simp [h]]; rfl
 ·rw [if_neg h,show decide ((x,y).1=s)=false by simp [h]]
theorem Zoy (x z:ByteArray) (l:List Bd):outB z (outB x l)=outB x (outB z l):=by
 unfold outB;rw [List.filter_filter,List.filter_filter]
 congr 1; funext b; rw [Bool.and_comm]
theorem Zoz (x:ByteArray) (l:List Bd):outB x (outB x l)=outB x l:=by
 unfold outB;rw [List.filter_filter]
 congr 1; funext b; rw [Zp3]
theorem ZbN {p:Pr}:∀ (e:Ex) (b:List ByteArray) (l:List Bd),e.sdF p b=0→(∀ n∈b,lastB l n=none)→e.put l=e:=by
 intro e;refine Ex.ind (p:=fun e=>∀ (b:List ByteArray) (l:List Bd),e.sdF p b=0→(∀ n∈b,lastB l n=none)→e.put l=e) (fun e ih b l h hb=>?_) e;obtain ⟨h1,h2⟩:=Xn.1 h
 have hn:(if e.op=1 then lastB l e.name else none)=none:=by
  split
  ·rename_i ho; exact hb _ ((XT.1 h1).2.2.2 ho)
  ·rfl
 rw [e.put_eq,hn];dsimp only
 have:e.kids.map (·.put (if e.op=5 then l.filter (fun b=>!decide (b.1=e.name)) else l))=e.kids:=by
  conv=>rhs; rw [← List.map_id e.kids]
  refine List.map_congr_left fun k hk=>?_
  have h3:=h2 k hk;by_cases h5:e.op=5
  ·rw [if_pos h5] at h3 ⊢;refine ih k hk _ _ h3 fun n hn=>?_
   rw [ZfT];split
   ·rfl
   ·rename_i hx;rcases List.mem_append.1 hn with hn | hn
    ·exact hb n hn
    ·simp at hn; exact absurd hn hx
  ·rw [if_neg h5] at h3 ⊢;exact ih k hk _ _ h3 hb
 rw [this];cases e; rfl
theorem put_cld {p:Pr} {e:Ex} (h:e.sdF p []=0) (l:List Bd):e.put l=e:=ZbN e [] l h (by simp)
theorem ZlB:∀ e:Ex,e.put []=e:=by
 intro e;refine Ex.ind (p:=fun e=>e.put []=e) (fun e ih=>?_) e;have hn:(if e.op=1 then lastB [] e.name else none)=none:=by split<;>rfl
 have hl:(if e.op=5 then ([]:List Bd).filter (fun b=>!decide (b.1=e.name)) else [])=[]:=by split<;>rfl
 rw [e.put_eq,hn];dsimp only;rw [hl]
 have:e.kids.map (·.put [])=e.kids:=by
  conv=>rhs; rw [← List.map_id e.kids]
  exact List.map_congr_left fun k hk=>ih k hk
 rw [this];cases e; rfl
theorem ZoA {p:Pr} {x:ByteArray} {y:Ex}:∀ (e:Ex) (l:List Bd),(∀ b∈l,b.2.sdF p []=0)→(e.put (outB x l)).put [(x,y)]=e.put (l++[(x,y)]):=by
 intro e;refine Ex.ind (p:=fun e=>∀ (l:List Bd),(∀ b∈l,b.2.sdF p []=0)→(e.put (outB x l)).put [(x,y)]=e.put (l++[(x,y)])) (fun e ih l hl=>?_) e
 have hone:∀ s,lastB [(x,y)] s=if x=s then some y else none:=fun s=>by
  have:=ZfV [] x s y
  rwa [List.nil_append] at this
 have hkids:∀ (op:Int) (nm:ByteArray),e.op=op→e.name=nm→(op=1→¬ x=nm) →
  (Ex.mk op nm (e.kids.map (·.put (if op=5 then outB nm (outB x l) else outB x l)))).put [(x,y)]=.mk op nm (e.kids.map (·.put (if op=5 then outB nm (l++[(x,y)]) else l++[(x,y)]))):=by
  intro op nm ho hnm h1;rw [Ex.put_eq]
  have hn:(if (Ex.mk op nm (e.kids.map (·.put (if op=5 then outB nm (outB x l) else outB x l)))).op=1 then lastB [(x,y)] (Ex.mk op nm (e.kids.map (·.put (if op=5 then outB nm (outB x l) else outB x l)))).name else none)=none:=by
   show (if op=1 then lastB [(x,y)] nm else none)=none;by_cases h:op=1
   ·rw [if_pos h,hone,if_neg (h1 h)]
   ·rw [if_neg h]
  rw [hn];show Ex.mk op nm ((e.kids.map _).map (fun k:Ex=>k.put (if op=5 then outB nm [(x,y)] else [(x,y)])))=_
  congr 1
  rw [List.map_map];refine List.map_congr_left fun k hk=>?_
  show (k.put (if op=5 then outB nm (outB x l) else outB x l)).put (if op=5 then outB nm [(x,y)] else [(x,y)])=k.put (if op=5 then outB nm (l++[(x,y)]) else l++[(x,y)]);by_cases h5:op=5
  ·rw [if_pos h5,if_pos h5,if_pos h5];have hap:outB nm (l++[(x,y)])=outB nm l++outB nm [(x,y)]:=by unfold outB; rw [List.filter_append]
   rw [hap];by_cases hx:nm=x
   ·have h0:outB nm [(x,y)]=[]:=by unfold outB; simp [hx]
    rw [h0,ZlB,Zp2,hx];exact congrArg k.put (Zoz x l)
   ·have h0:outB nm [(x,y)]=[(x,y)]:=by unfold outB; simp [Ne.symm hx]
    rw [h0,Zoy];exact ih k hk (outB nm l) fun b hb=>hl b (List.mem_filter.1 hb).1
  ·rw [if_neg h5,if_neg h5,if_neg h5];exact ih k hk l hl
 rw [e.put_eq (outB x l),e.put_eq (l++[(x,y)])];by_cases h1:e.op=1
 ·rw [if_pos h1,if_pos h1,ZfT,ZfV];by_cases hx:e.name=x
  ·rw [if_pos hx,if_pos hx.symm];dsimp only;rw [Ex.put_eq]
   have:(if (Ex.mk e.op e.name (e.kids.map (·.put (if e.op=5 then (outB x l).filter (fun b=>!decide (b.1=e.name)) else outB x l)))).op=1 then lastB [(x,y)] (Ex.mk e.op e.name (e.kids.map (·.put (if e.op=5 then (outB x l).filter (fun b=>!decide (b.1=e.name)) else outB x l)))).name else none)=some y:=by
    show (if e.op=1 then lastB [(x,y)] e.name else none)=some y;rw [if_pos h1,hone,if_pos hx.symm]
   rw [this]
  ·rw [if_neg hx,if_neg (fun h:x=e.name=>hx h.symm)];cases hz:lastB l e.name with
   | some z =>
     dsimp only;obtain ⟨b,hb,_,rfl⟩:=Zdf hz;exact put_cld (hl b hb) _
   | none =>
     dsimp only;exact hkids e.op e.name rfl rfl fun _ h=>hx h.symm
 ·rw [if_neg h1,if_neg h1];dsimp only;exact hkids e.op e.name rfl rfl fun h=>absurd h h1
theorem ZlC {p:Pr}:∀ {ns:List ByteArray} {vs:List Val} {es:List Ex} {s:ByteArray} {v:Val},Reps p vs es→findV ns vs s=some v→∃ x,lastB (bdL ns es) s=some x∧Rep p v x
 | [],vs,es,s,v,h,hf=>by rw [findV] at hf; cases hf; intros; contradiction
 | n::ns,[],es,s,v,h,hf=>by rw [findV] at hf; cases hf; intros; contradiction
 | n::ns,w::vs,es,s,v,h,hf=>by
   rw [Reps] at h;obtain ⟨e,es',rfl,h1,h2⟩:=h;rw [ZhT,ZfV];rw [findV] at hf;by_cases hn:n=s
   ·rw [if_pos hn] at hf ⊢;cases hf;exact ⟨e,rfl,h1⟩
   ·rw [if_neg hn] at hf ⊢;exact ZlC h2 hf
theorem ZjY {ns:List ByteArray} {es:List Ex} {b:Bd} (h:b∈bdL ns es):b.2∈es:=by
 unfold bdL at h;exact (List.of_mem_zip (List.mem_reverse.1 h)).2
theorem ZoB {ns:List ByteArray} {es:List Ex} (h:ns.length=es.length):(bdL ns es).map (·.1)=ns.reverse:=by
 unfold bdL;rw [List.map_reverse,List.map_fst_zip (by omega)]
theorem Zmn {p:Pr} {e:Ex} {ns:List ByteArray} {es:List Ex} (h:e.sdF p ns=0) (hn:e.nmOk) (hl:ns.length=es.length) (hes:∀ x∈es,Cld p x):Cld p (e.put (bdL ns es)) :=
 ⟨ZmY e _ ns [] h (fun n hn=>.inr (by rw [ZoB hl]; exact List.mem_reverse.2 hn)) fun b hb=>(hes _ (ZjY hb)).1,ZmZ e _ hn fun b hb=>(hes _ (ZjY hb)).2⟩
end Go.PV.Ytglpmlbbaedbiaa
end
section
open Bool renaming and_eq_true→ZpM
open List renaming cons_append→Zp6,length_cons→Zpx,length_append→Zpy,all_cons→ZpU,append_assoc→Zqc
namespace Go.PV.Ytglpmlbbaedbiaa
open Go Go.Proofs
theorem ZjZ {p:Pr} {k:Ex} {r:List Ex} (hk:k.isV p=false) (hc:k.sdF p []=0):(Ex.mk 4 noNm (k::r)).isV p=false:=by
 rw [Ex.isV_eq,Zjc hc];show (match hdK k++r with | k::r=>decide (k.op=2) && (decide ((r.length:Int)<arFu p.funs k.name) && r.all (·.isV p)) | []=>false)=false;unfold hdK;rw [k.isV_eq] at hk;by_cases h4:k.op=4
 ·rw [if_pos h4];rw [if_neg (by omega),if_neg (by omega),if_neg (by omega),if_pos h4] at hk;obtain ⟨_,f,a,l,hkk⟩:=ZdN (Zfu hc) (k.flat_op h4);rw [hkk] at hk ⊢;dsimp only [Zp6] at hk ⊢;refine Bool.eq_false_iff.2 fun hne=>?_
  simp only [ZpM,decide_eq_true_eq] at hne;obtain ⟨h2,h3,h5⟩:=hne;rw [← Zp6,List.all_append,ZpM] at h5;rw [h5.1,decide_eq_true h2,decide_eq_true (by simp only [Zpx,Zpy] at h3 ⊢; omega)] at hk;cases hk
 ·rw [if_neg h4];show (decide (k.op=2) && (decide ((r.length:Int)<arFu p.funs k.name) && r.all (·.isV p)))=false;refine Bool.eq_false_iff.2 fun hne=>?_
  simp only [ZpM,decide_eq_true_eq] at hne;obtain ⟨h2,h3,h5⟩:=hne;rw [if_neg (by omega),if_pos h2,decide_eq_true (by omega)] at hk;cases hk
theorem Zfx {p:Pr} {k:Ex} {r:List Ex} (hk:k.isV p=false):stepF p (.mk 4 noNm (k::r))=(.mk 4 noNm ((stepF p k).1::r),(stepF p k).2):=by
 refine ZjX (a:=[]) (show ¬ (4:Int)=2 by decide) ?_ (by simp) hk;unfold preE;rw [if_neg]
 ·rfl
 ·rintro ⟨_,h⟩;have h:k.isV p=true:=h;rw [hk] at h; cases h
theorem Ap.nv {p:Pr} {e h:Ex} {l:List Ex} (ha:Ap e h l) (hc:h.sdF p []=0) (hv:h.isV p=true) (hn:∀ f t,hdK h++l=f::t→f.op=2→(t.length:Int)<arFu p.funs f.name→(∀ x∈t,x.isV p=true)→False):e.isV p=false:=by
 rw [e.isV_eq,if_neg (by rw [ha.op]; decide),if_neg (by rw [ha.op]; decide),if_neg (by rw [ha.op]; decide),if_pos ha.op,ha.flat hc hv];show (match hdK h++l with | k::r=>decide (k.op=2) && (decide ((r.length:Int)<arFu p.funs k.name) && r.all (·.isV p)) | []=>false)=false;cases hq:hdK h++l with
 | nil=>rfl
 | cons f t =>
   dsimp only;refine Bool.eq_false_iff.2 fun hne=>?_
   simp only [ZpM,decide_eq_true_eq] at hne;exact hn f t hq hne.1 hne.2.1 (List.all_eq_true.1 hne.2.2)
def Wh (p:Pr) (op:Int) (nm:ByteArray) (E:Ex) (l:List Ex):Prop :=
 (op=3∧E=.mk 3 nm l)∨(op=4∧∃ h t,l=h::t∧(E=.mk 4 noNm (h::t)∨(h.isV p=true∧Ap E h t)))
theorem Wh.step {p:Pr} {op:Int} {nm:ByteArray} {E k:Ex} {ls bs:List Ex} (hW:Wh p op nm E (ls++k::bs)) (hl:∀ x∈ls,Cld p x) (ha:∀ x∈ls,x.isV p=true) (hck:Cld p k) (hk:k.isV p=false) :
 E.isV p=false∧(stepF p E).2=(stepF p k).2∧Wh p op nm (stepF p E).1 (ls++(stepF p k).1::bs):=by
 rcases hW with ⟨rfl,rfl⟩ | ⟨rfl,h,t,ht,hE⟩
 ·have hs:stepF p (Ex.mk 3 nm (ls++k::bs))=(.mk 3 nm (ls++(stepF p k).1::bs),(stepF p k).2):=by
   refine ZjX (show ¬ (3:Int)=2 by decide) ?_ ha hk;unfold preE;rw [if_neg (fun h=>absurd h.1 (show ¬ (3:Int)=4 by decide))]
  refine ⟨?_,by rw [hs],.inl ⟨rfl,by rw [hs]⟩⟩;rw [Ex.isV_eq];show (ls++k::bs).all (·.isV p)=false;rw [List.all_append,ZpU,hk];simp
 ·cases ls with
  | nil =>
    rw [List.nil_append] at ht;cases ht;rcases hE with rfl | ⟨h1,_⟩
    ·refine ⟨ZjZ hk hck.1,by rw [Zfx hk],.inr ⟨rfl,_,_,rfl,.inl (by rw [Zfx hk])⟩⟩
    ·rw [hk] at h1; cases h1
  | cons a ls =>
    rw [Zp6] at ht;obtain ⟨e1,e2⟩:=List.cons.inj ht;subst e1 e2;have hv:=ha a (by simp);have hc:=(hl a (by simp)).1
    have hA:Ap E a (ls++k::bs):=by
     rcases hE with h | h
     ·exact .inl h
     ·exact h.2
    obtain ⟨f,l,g1,g2,g3,g4,g5⟩:=Zfh hc hv
    have hs:stepF p E=(.mk 4 noNm ((hdK a++ls)++(stepF p k).1::bs),(stepF p k).2):=by
     refine ZjX (by rw [hA.op]; decide) (by rw [hA.pre hc hv,Zqc]) (fun x hx=>?_) hk;rcases List.mem_append.1 hx with hx | hx
     ·rw [g1] at hx; exact g3 x hx
     ·exact ha x (by simp [hx])
    refine ⟨hA.nv hc hv fun f' t' hft _ _ hall=>?_,by rw [hs],.inr ⟨rfl,a,ls++(stepF p k).1::bs,rfl,.inr ⟨hv,.inr (by rw [hs,Zqc])⟩⟩⟩;rw [g1] at hft;cases hft
    have:=hall k (by simp)
    rw [hk] at this; cases this
theorem Wh.rd {p:Pr} (hp:∀ f∈p.funs,BdOk p f) {op:Int} {nm:ByteArray} {ls bs:List Ex} (hl:∀ x∈ls,Cld p x) (ha:∀ x∈ls,x.isV p=true):∀ {n:Nat} {k k' E:Ex},Cld p k→Wh p op nm E (ls++k::bs)→Rd p n k k'→∃ E',Rd p n E E'∧Wh p op nm E' (ls++k'::bs)
 | 0,k,k',E,hk,hW,h=>by obtain rfl:=h; exact ⟨E,rfl,hW⟩
 | n+1,k,k',E,hk,hW,h=>by
   obtain ⟨h1,h2,h3⟩:=hW.step hl ha hk h.1;obtain ⟨E',g1,g2⟩:=Wh.rd hp hl ha (Zfw hp hk h.1 h.2.1) h3 h.2.2;exact ⟨E',⟨h1,h2.trans h.2.1,g1⟩,g2⟩
def Bad (p:Pr) (fu c:Int) (E:Ex) (k:Int):Prop :=
 k=7∨k=6∨∃ (n:Nat) (E':Ex),Rd p n E E'∧E'.isV p=false∧((k=8∧c+n=fu)∨(k=420∧c+n<fu∧(stepF p E').2=420)∨(k=421∧c+n≤fu∧(stepF p E').2=421))
theorem Bad.pre {p:Pr} {fu c:Int} {E E':Ex} {k:Int} {n:Nat} (h:Rd p n E E') (hb:Bad p fu (c+n) E' k):Bad p fu c E k:=by
 rcases hb with h7 | h6 | ⟨m,F,h1,h2,h3⟩
 ·exact .inl h7
 ·exact .inr (.inl h6)
 ·refine .inr (.inr ⟨n+m,F,h.trans h1,h2,?_⟩);rcases h3 with ⟨h,h'⟩ | ⟨h,h',h''⟩ | ⟨h,h',h''⟩
  ·exact .inl ⟨h,by omega⟩
  ·exact .inr (.inl ⟨h,by omega,h''⟩)
  ·exact .inr (.inr ⟨h,by omega,h''⟩)
theorem Bad.wh {p:Pr} (hp:∀ f∈p.funs,BdOk p f) {op:Int} {nm:ByteArray} {ls bs:List Ex} (hl:∀ x∈ls,Cld p x) (ha:∀ x∈ls,x.isV p=true) {fu c:Int} {k E:Ex} {x:Int} (hk:Cld p k) (hW:Wh p op nm E (ls++k::bs)) (hb:Bad p fu c k x):Bad p fu c E x:=by
 rcases hb with h7 | h6 | ⟨m,F,h1,h2,h3⟩
 ·exact .inl h7
 ·exact .inr (.inl h6)
 ·obtain ⟨E',g1,g2⟩:=hW.rd hp hl ha hk h1;obtain ⟨q1,q2,_⟩:=g2.step hl ha (h1.cl hp hk) h2;refine .inr (.inr ⟨m,E',g1,q1,?_⟩);rw [q2]; exact h3
theorem Zhh {p:Pr} (hp:∀ f∈p.funs,BdOk p f) {r:List Ex}:∀ {n:Nat} {X X':Ex},Cld p X→Rd p n X X'→Rd p n (Yr X r) (Yr X' r)
 | 0,X,X',hc,h=>by obtain rfl:=h; rfl
 | n+1,X,X',hc,h=>by
   have ih:=Zhh hp (r:=r) (Zfw hp hc h.1 h.2.1) h.2.2;unfold Yr at ih ⊢;by_cases hr:r.length=0
   ·rw [if_pos hr,if_pos hr]; exact h
   ·rw [if_neg hr,if_neg hr] at ih ⊢;exact ⟨ZjZ h.1 hc.1,by rw [Zfx h.1]; exact h.2.1,by rw [Zfx h.1]; exact ih⟩
theorem ZlD {p:Pr} (hp:∀ f∈p.funs,BdOk p f) {r:List Ex} {fu c:Int} {X:Ex} {k:Int} (hc:Cld p X) (hb:Bad p fu c X k):Bad p fu c (Yr X r) k:=by
 rcases hb with h7 | h6 | ⟨m,F,h1,h2,h3⟩
 ·exact .inl h7
 ·exact .inr (.inl h6)
 ·refine .inr (.inr ⟨m,Yr F r,Zhh hp hc h1,?_⟩);unfold Yr;by_cases hr:r.length=0
  ·rw [if_pos hr]; exact ⟨h2,h3⟩
  ·rw [if_neg hr];exact ⟨ZjZ h2 (h1.cl hp hc).1,by rw [Zfx h2]; exact h3⟩
end Go.PV.Ytglpmlbbaedbiaa
end
