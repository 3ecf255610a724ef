/- Part 5 of 11 of what the proof of Runs needs. -/
import Derived.Test.YtglpmlbbaedbiaaGreatRuns4
import Derived.StringKeys
import Derived.OpenShut
import Derived.Handed
import Derived.JoinedOf
import Derived.Carry
import Derived.JoinedCond
import Derived.Test.YtglpmlbbaedbiaaGreatRows
set_option linter.unusedVariables false
set_option linter.unusedSimpArgs false
set_option linter.defProp false
section
open Go.PV.AH renaming set_none→ZpO,set_same→ZpP
open Go.PV.PureF renaming forget→Zp4,use→ZpQ
open Go.PV.SubH renaming new→ZpR,of_set→ZpS,none→Zqp
open List renaming drop_eq_getElem_cons→Zql,getElem_mem→ZpW,drop→ZpL,drop_eq_nil_of_le→Zp9
open Nat renaming reduceLT→ZpJ,reduceEqDiff→ZpI,reduceAdd→ZpT
open Option renaming bind_some→Zqg,map_some→Zp6
set_option maxRecDepth 20000
set_option maxHeartbeats 4000000
namespace Go.PV.YtglpmlbbaedbiaaGreat
open Go Go.Proofs
theorem ZcS {l:List Ex} {i:Nat} (h:i<l.length):exsSz (l.drop i)=l[i].sz+exsSz (l.drop (i+1)):=by rw [Zql h,exsSz]
theorem ZcT {l:List Ex} {i:Nat} (h:i<l.length):exsDp (l.drop i)=max l[i].dp (exsDp (l.drop (i+1))):=by rw [Zql h,exsDp]
theorem ZbC {l:List Pa} {i:Nat} (h:i<l.length):pasSz (l.drop i)=l[i].sz+pasSz (l.drop (i+1)):=by rw [Zql h,pasSz]
theorem Zn5 (e:Ex):e.sz≤1152921504606846976→PureF Tryz.prog 19 [exV e] (.tuple [iV e.sz,iV e.dp]):=by
 refine Ex.ind (p:=fun e=>e.sz≤1152921504606846976→PureF Tryz.prog 19 [exV e] (.tuple [iV e.sz,iV e.dp])) (fun e ih hs=>?_) e;have hz:=e.sz_eq;have hl:=YN e.kids;have ih':∀ i (h:i<e.kids.length),PureF Tryz.prog 19 [exV e.kids[i]] (.tuple [iV e.kids[i].sz,iV e.kids[i].dp]):=fun i h=>ih _ (ZpW h) (by have:=Ya (ZpW h); omega)
 clear ih;refine Zp4 fun H=>?_
 refine ZE fd19 (by simp) ?_;delta c19 Zj Zf;obtain ⟨N,D,hN,hD,hNs,hlN⟩:∃ N D,e.sz=N∧e.dp=D∧N≤1152921504606846976∧e.kids.length≤N:=⟨_,_,rfl,rfl,hs,by omega⟩
 have hDN:D≤N:=by have:=e.dp_le; omega
 have h0:1+exsSz e.kids=N:=by omega
 have h1:exsDp e.kids+1=D:=by rw [← hD,e.dp_eq]
 rw [hN,hD];clear hs hl hz hN hD
 (repeat' (first | (simp only [↓Zz,ZA,ptrV,ZpJ,ZD,undef, *]) | (refine ZB fun zr zh=>?_; have zg:=zh; (try simp only [ZpO] at zg))))
 refine ZP (fun _ _ _ h=>h) (fun A H'=>SubH H H'∧A.d=[]∧A.t 1=ptrV zr 0∧∃ (i n d sp:Nat),H' zr=some (.cells 28 [iV e.op,sV e.name,encS exE e.kids] sp)∧i≤e.kids.length∧A.t 6=iV i∧A.t 4=iV n∧A.t 5=iV d∧n+exsSz (e.kids.drop i)=N∧max d (exsDp (e.kids.drop i))+1=D)
  (fun A _=>match A.t 6 with | .lit (.int _ i)=>((e.kids.length:Int)-i).toNat | _=>0) ?_ ?_
 ·exact ⟨ZpR zh,rfl,rfl,0,1,0,0,ZpP _ _ _,by omega,rfl,rfl,rfl,h0,by simpa using h1⟩
 ·clear h0 h1;rintro ⟨t,d⟩ H' ⟨hs',rfl,h1,i,n,d,sp,k1,hi,h6,h4,h5,hn,hdd⟩;dsimp only at h1 h4 h5 h6;delta b19_1 Za Zd Zb Ze Zn Zr Zk Zo Zh Zc Zq Zm
  (repeat' (first | (simp only [↓Zz,ZA,ZI,ptrV,intV,ZpI,ZpJ,reduceCtorEq,ZpL,vcMax,XI,ZR,Ye,Yd,ZU,Zme, *]) | (refine ZX ?_ ?_<;>intro) | (refine ZV rfl (fun _ _ _ h=>h) ?_) | (refine ZpQ (ih' _ (by assumption)) ?_) | (with_reducible refine And.intro ?_ ?_)))
  ·rename_i hlt;have e1:=ZcS hlt;rw [ZK (n:=(i:Int)+1) (by omega) (by omega),ZK (n:=(n:Int)+(e.kids[i].sz:Int)) (by omega) (by omega)];exact ⟨i+1,n+e.kids[i].sz,max d e.kids[i].dp,sp,rfl,by omega,rfl,by simp,by simp; split<;>omega,by omega,by rw [ZcT hlt] at hdd; omega⟩
  ·rename_i hlt;rw [ZK (n:=(i:Int)+1) (by omega) (by omega)];omega
  ·rename_i hlt;rw [Zp9 (by omega)] at hn hdd;delta c19_1 Za Zm Zc;have hn':N=n:=by simpa [exsSz] using hn.symm
   have hd':D=d+1:=by simpa [exsDp] using hdd.symm
   subst hn'; subst hd'
   (repeat' (first | (simp only [↓Zz,ZA,ZpI,ZpJ, *])))
   rw [ZK (n:=(d:Int)+1) (by omega) (by omega)];exact Yo rfl (by simp only [resV,YY,YX,ZC,ZpI,if_true,if_false,Zqg,Zp6,tupV, *]<;>rfl) ⟨rfl,hs'⟩
theorem Zim (e:Ex) (h:e.sz≤1152921504606846976):PureF Tryz.prog 5 [exV e] (.tuple [iV e.sz,iV e.dp]):=by
 refine Zp4 fun H=>?_
 refine ZE fd5 (by simp) ?_;delta c5 Zj Zf Zb Zo Zr Zh Zc
 (repeat' (first | (simp only [↓Zz,ZA,ZI,ptrV,ZpI,ZpJ,ZD,ZpL,undef,Yd,Zme, *]) | (refine ZB fun zr zh=>?_; have zg:=zh; (try simp only [ZpO] at zg)) | (refine ZpQ (Zn5 _ h) ?_)))
 exact Yo rfl (by simp only [resV,YY,YX,ZC,ZpI,if_true,if_false,Zqg,Zp6,tupV, *]<;>rfl) ⟨rfl,ZpR zh⟩
theorem ZoQ (e:Pa):e.sz≤1152921504606846976→PureF Tryz.prog 43 [paV e] (iV e.sz):=by
 refine Pa.ind (p:=fun e=>e.sz≤1152921504606846976→PureF Tryz.prog 43 [paV e] (iV e.sz)) (fun e ih hs=>?_) e;have hz:=e.sz_eq;have hl:=XY e.kids;have ih':∀ i (h:i<e.kids.length),PureF Tryz.prog 43 [paV e.kids[i]] (iV e.kids[i].sz):=fun i h=>ih _ (ZpW h) (by have:=Xm (ZpW h); omega)
 clear ih;refine Zp4 fun H=>?_
 refine ZE fd43 (by simp) ?_;delta c43 Zj Zf Zd Zb Ze Zq;obtain ⟨N,hN,hNs,hlN⟩:∃ N,e.sz=N∧N≤1152921504606846976∧e.kids.length≤N:=⟨_,rfl,hs,by omega⟩
 have h0:1+pasSz e.kids=N:=by omega
 rw [hN];clear hs hl hz hN
 (repeat' (first | (simp only [↓Zz,ZA,ptrV,intV,ZpI,ZpJ,reduceCtorEq,ZD,ZpL,undef,Xx,Xk,YQ, *]) | (refine ZB fun zr zh=>?_; have zg:=zh; (try simp only [ZpO] at zg))))
 refine ZP (fun _ _ _ h=>h) (fun A H'=>SubH H H'∧A.d=[]∧A.t 7=encS paE e.kids∧A.t 8=iV e.kids.length∧∃ (i n:Nat),i≤e.kids.length∧A.t 9=iV i∧A.t 3=iV n∧n+pasSz (e.kids.drop i)=N)
  (fun A _=>match A.t 9 with | .lit (.int _ i)=>((e.kids.length:Int)-i).toNat | _=>0) ?_ ?_
 ·exact ⟨ZpR zh,rfl,rfl,rfl,0,1,by omega,rfl,rfl,h0⟩
 ·clear h0;rintro ⟨t,d⟩ H' ⟨hs',rfl,h7,h8,i,n,hi,h9,h3,hn⟩;dsimp only at h7 h8 h9 h3;delta b43_1 Zn Zr Zk Zb Zi Zg Za Zo Zc Zm
  (repeat' (first | (simp only [↓Zz,ZA,ptrV,ZpI,ZpJ,ZpT,setAt,ZpL,Wx,Zay,Zhu,ZdT,YQ,en_43, *]) | (refine ZX ?_ ?_<;>intro) | (refine ZV rfl (fun _ _ _ h=>h) ?_) | (refine ZB fun zr zh=>?_; have zg:=zh; (try simp only [ZpO] at zg)) | (refine ZpS ?_ ?_) | (exact Zqp (by assumption) (by assumption)) | (refine ZpQ (ih' _ (by assumption)) ?_) | (with_reducible refine And.intro ?_ ?_)))
  ·rename_i hlt;have e1:=ZbC hlt;rw [ZK (n:=(i:Int)+1) (by omega) (by omega),ZK (n:=(n:Int)+(e.kids[i].sz:Int)) (by omega) (by omega)];exact ⟨i+1,n+e.kids[i].sz,by omega,rfl,by simp,by omega⟩
  ·rename_i hlt;rw [ZK (n:=(i:Int)+1) (by omega) (by omega)];omega
  ·rename_i hlt;rw [Zp9 (by omega)] at hn;delta c43_1 Za Zc;have hn':N=n:=by simpa [pasSz] using hn.symm
   subst hn'
   (repeat' (first | (simp only [↓Zz,ZA,ZpI,ZpJ, *]) | (refine ZG ?_)))
end Go.PV.YtglpmlbbaedbiaaGreat
end
section
open Go.PV.AH renaming set_none→ZpO,set_same→ZpP,get→ZpU,ne_of→ZpK
open Go.PV.PureF renaming use→ZpQ
open Go.PV.SubH renaming new→ZpR,refl→ZpN
open List renaming append_nil→ZqJ,getElem_mem→ZpW,drop→ZpL,take_of_length_le→Zqr,drop_zero→ZqL
open Nat renaming reduceEqDiff→ZpI,reduceLT→ZpJ,reduceAdd→ZpT,reduceLeDiff→Zp1,reduceMul→Zqu,le_refl→ZpY
set_option maxRecDepth 20000
set_option maxHeartbeats 4000000
namespace Go.PV.YtglpmlbbaedbiaaGreat
open Go Go.Proofs
theorem Zkw {l:List Ex} {i:Nat} (h:i<l.length):encC exE (l.take (i+1))=encC exE (l.take i)++[iV l[i].op,sV l[i].name,encS exE l[i].kids]:=by
 rw [XB h,Yl]; simp only [YF,Za1,ZqJ,Jt]
theorem Zin (e:Ex):e.sz≤1099511627776→PureF Tryz.prog 10 [exV e] (exV e):=by
 refine Ex.ind (p:=fun e=>e.sz≤1099511627776→PureF Tryz.prog 10 [exV e] (exV e)) (fun e ih hs=>?_) e;have hl:=YN e.kids;have ih':∀ i (h:i<e.kids.length),PureF Tryz.prog 10 [exV e.kids[i]] (exV e.kids[i]):=fun i h=>ih _ (ZpW h) (by have:=Ya (ZpW h); have:=e.sz_eq; omega)
 have hN:e.kids.length≤1099511627776:=by have:=e.sz_eq; omega
 clear ih hl hs;refine JN.pure fun H0=>?_
 refine ZE fd10 (by simp) ?_;delta c10 Zj Zi Zd Zb Zq Zr Zg Ze
 (repeat' (first | (simp only [↓Zz,ZA,ptrV,intV,ZpI,ZpJ,ZpT,Zp1,reduceCtorEq,ZD,ZM,fillV,setAt,ZpL,undef,ZO,ZZ,ZR,ZQ,ZW,Ye,Zbh,stT_35,Wj,ZU, *]) | (refine ZB fun zr zh=>?_; have zg:=zh; (try simp only [ZpO] at zg))))
 rename_i r1 n1 n1' r2 n2 n2';have n2'':=n2;rw [ZpO] at n2'';rw [ZpO] at zh;obtain ⟨⟨d23,d32⟩,m3⟩:=zh;rw [ZpO] at m3;obtain ⟨⟨d13,d31⟩,z3⟩:=m3
 have hb:InB (H0.set r2 (.cells 35 [.lit (.int .i64 0),.lit (.string { data:=#[] }),.lit (.slice none 0 0)] 0)) (((H0.set r1 (.cells 28 [iV e.op,sV e.name,encS exE e.kids] 0)).set r2 (.cells 35 [.lit (.int .i64 0),.lit (.string { data:=#[] }),.lit (.slice none 0 0)] 0)).set zr (.cells 35 [iV e.op,sV e.name,.lit (.slice none 0 0)] 0)) zr 35 [iV e.op,sV e.name] [] 35 3 0 [] (.lit (.slice none 0 0)) _ :=
  InB.start (ZpP _ _ _) (((ZpR n1).set _ _).trans (ZpR (by simp only [ZpU, *,if_false]))) (by simp only [ZpU, *,if_false])
 generalize hH1:((H0.set r1 (.cells 28 [iV e.op,sV e.name,encS exE e.kids] 0)).set r2 (.cells 35 [.lit (.int .i64 0),.lit (.string { data:=#[] }),.lit (.slice none 0 0)] 0)).set zr (.cells 35 [iV e.op,sV e.name,.lit (.slice none 0 0)] 0)=H1 at hb
 refine ZP (fun _ _ _ h=>h) (fun A H=>A.d=[]∧A.t 2=ptrV r2 0∧A.t 3=ptrV zr 0∧A.t 12=encS exE e.kids∧A.t 13=iV e.kids.length∧∃ (i:Nat) (v:VV) (Hb:AH),i≤e.kids.length∧A.t 14=iV i∧InB (H0.set r2 (.cells 35 [.lit (.int .i64 0),.lit (.string { data:=#[] }),.lit (.slice none 0 0)] 0)) H zr 35 [iV e.op,sV e.name] [] 35 3 i (encC exE (e.kids.take i)) v Hb)
  (fun A _=>match A.t 14 with | .lit (.int _ i)=>((e.kids.length:Int)-i).toNat | _=>0) ?_ ?_
 ·exact ⟨rfl,rfl,rfl,rfl,rfl,0,_,_,by omega,rfl,hb⟩
 ·clear hb hH1;rintro ⟨t,d⟩ H ⟨rfl,h2,h3,h12,h13,i,v,Hb,hi,h14,hb⟩;dsimp only at h2 h3 h12 h13 h14;have q3:=hb.at;have q2:=hb.cell2;delta b10_1 Zn Zr Zk Zb Zi Zg Zd Zo Zq Zl Zm Za
  (repeat' (first | (simp only [↓Zz,ZA,ptrV,ZpI,ZpJ,ZpT,Zqu,Zp1,fillV,setAt,ZpL,ZH,XI,ZH,Yk,Yd,Xa,YE,Yc,Wj,ZU,Yx,Zmd, *]) | (refine ZX ?_ ?_<;>intro) | (refine ZV rfl (fun _ _ _ h=>h) ?_) | (refine ZJ mixed (fun _ _ _ _ e h=>⟨e.trans h.1,h.2⟩) _ (ZpN _) ?_) | (refine ZB fun zr zh=>?_; have zg:=zh; (try simp only [ZpO] at zg); (try have zn_q2:=ZpK q2 zh); (try have zn_q2:=ZpK q2 zg.2); (try have zn_q2:=ZpK q2 zg.2.2); (try have zn_q3:=ZpK q3 zh); (try have zn_q3:=ZpK q3 zg.2); (try have zn_q3:=ZpK q3 zg.2.2)) | (exact ZpN _) | (refine ZpQ (ih' _ (by assumption)) ?_) | (with_reducible refine And.intro ?_ ?_)))
  ·rename_i z0 hlt;have hb1:=hb.alloc zh (.cells 28 [iV e.kids[i].op,sV e.kids[i].name,encS exE e.kids[i].kids] 0);refine WH Yx Wj rfl (by omega) hb1.own rfl rfl (by omega) (by omega) (fun v' H' ho=>?_);have hb2:=hb1.next ho;have q3':=ho.sub _ _ hb1.blk;have hc1:=ho.cells.1;have hc2:=ho.cells.2;clear hb1 hb q3 q2 ho
   (repeat' (first | (simp only [↓Zz,ZA,ptrV,ZpI,ZpJ,ZpT,setAt,Yk,szT_33, *]) | (with_reducible refine And.intro ?_ ?_)))
   all_goals rw [ZK (n:=(i:Int)+1) (by omega) (by omega)]
   ·rw [← Zkw hlt] at hb2;exact ⟨i+1,v',_,by omega,rfl,hb2⟩
   ·omega
  ·rename_i hlt;have hin:i=e.kids.length:=by omega
   subst hin;rw [Zqr (ZpY _)] at hb;have hc1:=hb.own.cells.1;have hc2:=hb.own.cells.2;delta c10_1 Zb Zg
   (repeat' (first | (simp only [↓Zz,ZA,ptrV,ZpI,ZpJ,ZpT,setAt,ZpL,YZ,Zbh, *])))
   refine ZdC YZ (by simp only [ZC,ZpI,if_false, *]; rfl) (ZpP _ _ _) (by rw [ZqL]; exact XT _ _ _ _) ?_;exact ⟨_,rfl,GhV.agg (hb.ret n2'.2 _)⟩
theorem Zn6 {l:List Pa} {i:Nat} (h:i<l.length):encC paE (l.take (i+1))=encC paE (l.take i)++[bV l[i].con,sV l[i].name,encS paE l[i].kids]:=by
 rw [XB h,Yl]; simp only [YF,Za1,ZqJ,ZkZ]
theorem copyP_ok (e:Pa):e.sz≤1099511627776→PureF Tryz.prog 53 [paV e] (paV e):=by
 refine Pa.ind (p:=fun e=>e.sz≤1099511627776→PureF Tryz.prog 53 [paV e] (paV e)) (fun e ih hs=>?_) e;have hl:=XY e.kids;have ih':∀ i (h:i<e.kids.length),PureF Tryz.prog 53 [paV e.kids[i]] (paV e.kids[i]):=fun i h=>ih _ (ZpW h) (by have:=Xm (ZpW h); have:=e.sz_eq; omega)
 have hN:e.kids.length≤1099511627776:=by have:=e.sz_eq; omega
 clear ih hl hs;refine JN.pure fun H0=>?_
 refine ZE fd53 (by simp) ?_;delta c53 Zj Zi Zd Zb Zq Zr Zg Ze
 (repeat' (first | (simp only [↓Zz,ZA,ptrV,intV,ZpI,ZpJ,ZpT,Zp1,reduceCtorEq,ZD,ZM,fillV,setAt,ZpL,cl_bool,undef,Wl,Wz,Xx,Zat,ZW,Xk,Zep,stT_74,Jy,YQ, *]) | (refine ZB fun zr zh=>?_; have zg:=zh; (try simp only [ZpO] at zg))))
 rename_i r1 n1 n1' r2 n2 n2';have n2'':=n2;rw [ZpO] at n2'';rw [ZpO] at zh;obtain ⟨⟨d23,d32⟩,m3⟩:=zh;rw [ZpO] at m3;obtain ⟨⟨d13,d31⟩,z3⟩:=m3
 have hb:InB (H0.set r2 (.cells 74 [.lit (.bool false),.lit (.string { data:=#[] }),.lit (.slice none 0 0)] 0)) (((H0.set r1 (.cells 126 [bV e.con,sV e.name,encS paE e.kids] 0)).set r2 (.cells 74 [.lit (.bool false),.lit (.string { data:=#[] }),.lit (.slice none 0 0)] 0)).set zr (.cells 74 [bV e.con,sV e.name,.lit (.slice none 0 0)] 0)) zr 74 [bV e.con,sV e.name] [] 74 3 0 [] (.lit (.slice none 0 0)) _ :=
  InB.start (ZpP _ _ _) (((ZpR n1).set _ _).trans (ZpR (by simp only [ZpU, *,if_false]))) (by simp only [ZpU, *,if_false])
 generalize hH1:((H0.set r1 (.cells 126 [bV e.con,sV e.name,encS paE e.kids] 0)).set r2 (.cells 74 [.lit (.bool false),.lit (.string { data:=#[] }),.lit (.slice none 0 0)] 0)).set zr (.cells 74 [bV e.con,sV e.name,.lit (.slice none 0 0)] 0)=H1 at hb
 refine ZP (fun _ _ _ h=>h) (fun A H=>A.d=[]∧A.t 2=ptrV r2 0∧A.t 3=ptrV zr 0∧A.t 12=encS paE e.kids∧A.t 13=iV e.kids.length∧∃ (i:Nat) (v:VV) (Hb:AH),i≤e.kids.length∧A.t 14=iV i∧InB (H0.set r2 (.cells 74 [.lit (.bool false),.lit (.string { data:=#[] }),.lit (.slice none 0 0)] 0)) H zr 74 [bV e.con,sV e.name] [] 74 3 i (encC paE (e.kids.take i)) v Hb)
  (fun A _=>match A.t 14 with | .lit (.int _ i)=>((e.kids.length:Int)-i).toNat | _=>0) ?_ ?_
 ·exact ⟨rfl,rfl,rfl,rfl,rfl,0,_,_,by omega,rfl,hb⟩
 ·clear hb hH1;rintro ⟨t,d⟩ H ⟨rfl,h2,h3,h12,h13,i,v,Hb,hi,h14,hb⟩;dsimp only at h2 h3 h12 h13 h14;have q3:=hb.at;have q2:=hb.cell2;delta b53_1 Zn Zr Zk Zb Zi Zg Zd Zo Zq Zl Zm Za
  (repeat' (first | (simp only [↓Zz,ZA,ptrV,ZpI,ZpJ,ZpT,Zqu,Zp1,fillV,setAt,ZpL,ZH,Wx,ZH,JR,Zay,ZaD,Zhu,ZdT,Jy,YQ,WK,en_53, *]) | (refine ZX ?_ ?_<;>intro) | (refine ZV rfl (fun _ _ _ h=>h) ?_) | (refine ZJ mixed (fun _ _ _ _ e h=>⟨e.trans h.1,h.2⟩) _ (ZpN _) ?_) | (refine ZB fun zr zh=>?_; have zg:=zh; (try simp only [ZpO] at zg); (try have zn_q2:=ZpK q2 zh); (try have zn_q2:=ZpK q2 zg.2); (try have zn_q2:=ZpK q2 zg.2.2); (try have zn_q3:=ZpK q3 zh); (try have zn_q3:=ZpK q3 zg.2); (try have zn_q3:=ZpK q3 zg.2.2)) | (exact ZpN _) | (refine ZpQ (ih' _ (by assumption)) ?_) | (with_reducible refine And.intro ?_ ?_)))
  ·rename_i z0 hlt;have hb1:=hb.alloc zh (.cells 126 [bV e.kids[i].con,sV e.kids[i].name,encS paE e.kids[i].kids] 0);refine WH WK Jy rfl (by omega) hb1.own rfl rfl (by omega) (by omega) (fun v' H' ho=>?_);have hb2:=hb1.next ho;have q3':=ho.sub _ _ hb1.blk;have hc1:=ho.cells.1;have hc2:=ho.cells.2;clear hb1 hb q3 q2 ho
   (repeat' (first | (simp only [↓Zz,ZA,ptrV,ZpI,ZpJ,ZpT,setAt,JR,szT_72, *]) | (with_reducible refine And.intro ?_ ?_)))
   all_goals rw [ZK (n:=(i:Int)+1) (by omega) (by omega)]
   ·rw [← Zn6 hlt] at hb2;exact ⟨i+1,v',_,by omega,rfl,hb2⟩
   ·omega
  ·rename_i hlt;have hin:i=e.kids.length:=by omega
   subst hin;rw [Zqr (ZpY _)] at hb;have hc1:=hb.own.cells.1;have hc2:=hb.own.cells.2;delta c53_1 Zb Zg
   (repeat' (first | (simp only [↓Zz,ZA,ptrV,ZpI,ZpJ,ZpT,setAt,ZpL,WB,Zep, *])))
   refine ZdC WB (by simp only [ZC,ZpI,if_false, *]; rfl) (ZpP _ _ _) (by rw [ZqL]; exact XT _ _ _ _) ?_;exact ⟨_,rfl,GhV.agg (hb.ret n2'.2 _)⟩
end Go.PV.YtglpmlbbaedbiaaGreat
end
section
open Bool renaming and_eq_true→ZqA,and_self→Zqo
open Go.PV.AH renaming get→ZpU,set_set→Zqj,set_none→ZpO
open Go.PV.SubH renaming refl→ZpN,of_set→ZpS,none→Zqp
open Int renaming natCast_nonneg→ZqU,toNat_natCast→ZqN
open List renaming drop_eq_getElem_cons→Zql,map_cons→Zp3,map_nil→Zqa,length_cons→Zqb,length_nil→Zqh,all_cons→Zqn,all_nil→Zqv,drop→ZpL,set_cons_zero→Zqs,set_cons_succ→Zqy,drop_eq_nil_of_le→Zp9
open Nat renaming reduceEqDiff→ZpI,reduceLT→ZpJ,reduceAdd→ZpT,succ_ne_self→Zp7,zero_add→Zp2,le_refl→ZpY
set_option maxRecDepth 20000
set_option maxHeartbeats 4000000
namespace Go.PV.YtglpmlbbaedbiaaGreat
open Go Go.Proofs
def eqL {α β:Type} (p:α→β→Bool):List α→List β→Bool
 | [],[]=>true
 | a::l,b::m=>p a b && eqL p l m
 | _,_=>false
theorem Zn7 {α β:Type} {p:α→β→Bool}:∀ {l:List α} {m:List β},eqL p l m=true→l.length=m.length
 | [],[],_=>rfl
 | a::l,b::m,h=>by
   simp only [eqL,ZqA] at h;simp [Zn7 h.2]
theorem eqL_ne {α β:Type} {p:α→β→Bool} {l:List α} {m:List β} (h:¬ l.length=m.length):eqL p l m=false:=by
 cases he:eqL p l m with
 | false=>rfl
 | true=>exact absurd (Zn7 he) h
theorem ZdD {α β:Type} {p:α→β→Bool} {l:List α} {m:List β} {i:Nat} (h:i<l.length) (h':i<m.length):eqL p (l.drop i) (m.drop i)=(p l[i] m[i] && eqL p (l.drop (i+1)) (m.drop (i+1))):=by
 rw [Zql h,Zql h',eqL]
theorem equalEE {l m:List Ex} {f:VV} {p:Ex→Ex→Bool} {H:AH} {K:VE→AH→Prop} (hl:l.length≤1099511627776)
 (hf:∀ (i:Nat) (h:i<l.length) (h':i<m.length) H',SubH H H'→FnAt Tryz.prog f [exV l[i],exV m[i]] (boolV (p l[i] m[i])) H') (hK:K (.ret (boolV (eqL p l m))) H):ZT Tryz.prog 60 [exsV l,exsV m,f] H K:=by
 refine ReadF.use (x:=boolV (eqL p l m)) ?_ hK;clear hK;refine ZE fd60 (by simp) ?_;delta c60 Zq Za Ze Zn Zr
 (repeat' (first | (simp only [↓Zz,ZA,intV,boolV,ZpI,ZpJ,reduceCtorEq,ZD,undef,Yx, *]) | (refine Yh ?_ ?_<;>intro) | (refine ZG ?_) | (exact ZpN _) | (with_reducible refine And.intro ?_ ?_)))
 ·rename_i h;rw [eqL_ne (by simp at h; omega)]
 ·rename_i h;have hlm:l.length=m.length:=by simp at h; omega
  refine ZP (fun _ _ _ h=>h) (fun A H'=>SubH H H'∧A.d=[]∧A.t 1=exsV m∧A.t 2=f∧A.t 15=exsV l∧A.t 16=iV l.length∧∃ (i:Nat),i≤l.length∧A.t 17=iV i∧eqL p l m=eqL p (l.drop i) (m.drop i))
   (fun A _=>match A.t 17 with | .lit (.int _ i)=>((l.length:Int)-i).toNat | _=>0) ?_ ?_
  ·exact ⟨ZpN _,rfl,rfl,rfl,rfl,rfl,0,by omega,rfl,rfl⟩
  ·clear h;rintro ⟨t,d⟩ H' ⟨hs',rfl,h1,h2,h15,h16,i,hi,h17,he⟩;dsimp only at h1 h2 h15 h16 h17;rw [he];clear he;delta b60_1 Zn Zr Za Zk Zb Zi Zc Zg Zq Zm
   (repeat' (first | (refine (hf _ _ _ _ ?_) _ ?_) | (simp only [↓Wq,↓Wg,↓XM,↓XN,↓XZ,↓Znk,↓WX,↓Xe,↓Yf,↓Yi,↓Zks,↓Wa,↓ZdY,↓s_inE,↓ZbR,↓Yu,↓Yr,↓XJ,↓Ys,↓XK,↓Yt,↓YS,↓ZC,↓Xb,↓YH,↓YA,↓YU,↓Wr,↓s_un,↓Wv,↓Xf,↓XP,↓JS,↓Wm,↓Zbo,ptrV,boolV,Zp3,Zqa,Zqb,Zqh,ite_true,ite_false,ZpI,ZpJ,ZpT,true_and,Zp7,decide_true,decide_false,ZqU,ZqN,ZpU,Zqj,setAt,Zqn,Zqv,Zqo,eq_self,Zp2,ZpL,and_self,XT,Int.ofNat_lt,XS,We,YT,Xi,Zqs,Zqy,↓Ww,XW,ZpY,ZbA,XG,ZcQ,ZaF,XH,ZbB,Xr,WP,WQ,XI,Int.ofNat_lt,YZ,Zbh,Wj,Yx, *]) | (refine ZX ?_ ?_<;>intro) | (refine Yh ?_ ?_<;>intro) | (refine ZG ?_) | (refine ZV rfl (fun _ _ _ h=>h) ?_) | (refine ZB fun zr zh=>?_; have zg:=zh; (try simp only [ZpO] at zg)) | (refine ZpS ?_ ?_) | (exact Zqp (by assumption) (by assumption)) | (exact Zqp (by assumption) zg.2) | (with_reducible refine And.intro ?_ ?_)))
   ·rename_i h2;have h1:i<m.length:=by assumption
    rw [ZdD (by omega) h1,show p l[i] m[i]=false from by simpa using h2];rfl
   ·rename_i h2;have h1:i<m.length:=by assumption
    rw [ZK (n:=(i:Int)+1) (by omega) (by omega)];exact ⟨i+1,by omega,rfl,by rw [ZdD (by omega) h1,show p l[i] m[i]=true from by simpa using h2,Bool.true_and]⟩
   ·rw [ZK (n:=(i:Int)+1) (by omega) (by omega)];omega
   ·rw [Zp9 (by omega),Zp9 (by omega)];delta c60_1 Zq
    (repeat' (first | (simp only [↓Zz,ZA,ZpI,ZpJ, *]) | (refine ZG ?_)))
    rfl
mutual
def Ex.beq:Ex→Ex→Bool
 | .mk o n k,.mk o' n' k'=>decide (o=o') && decide (n=n') && Zdc k k'
def Zdc:List Ex→List Ex→Bool
 | [],[]=>true
 | a::l,b::m=>a.beq b && Zdc l m
 | _,_=>false
end
theorem Zjr:∀ (l m:List Ex),Zdc l m=eqL Ex.beq l m
 | [],[]=>rfl
 | a::l,b::m=>by rw [Zdc,eqL,Zjr l m]
 | [],b::m=>rfl
 | a::l,[]=>rfl
mutual
theorem Ex.beq_iff:∀ (a b:Ex),a.beq b=true↔a=b
 | .mk o n k,.mk o' n' k'=>by
   simp only [Ex.beq,ZqA,decide_eq_true_eq,ZhE k k',Ex.mk.injEq,and_assoc]
theorem ZhE:∀ (l m:List Ex),Zdc l m=true↔l=m
 | [],[]=>by simp [Zdc]
 | a::l,b::m=>by simp only [Zdc,ZqA,Ex.beq_iff a b,ZhE l m,List.cons.injEq]
 | [],b::m=>by simp [Zdc]
 | a::l,[]=>by simp [Zdc]
end
theorem Ex.beq_eq (a b:Ex):a.beq b=(decide (a.op=b.op) && decide (a.name=b.name) && eqL Ex.beq a.kids b.kids):=by
 cases a; cases b; rw [Ex.beq,Zjr]; rfl
end Go.PV.YtglpmlbbaedbiaaGreat
end
section
open Go.PV.AH renaming set_none→ZpO,set_same→ZpP,get→ZpU,ne_of→ZpK
open Go.PV.PureF renaming forget→Zp4,use→ZpQ
open Go.PV.SubH renaming new→ZpR,of_set→ZpS,none→Zqp,refl→ZpN
open List renaming drop_eq_getElem_cons→Zql,map_cons→Zp3,getElem_mem→ZpW,drop→ZpL,drop_zero→ZqL,drop_eq_nil_of_le→Zp9,take_of_length_le→Zqr
open Nat renaming reduceEqDiff→ZpI,reduceLT→ZpJ,reduceAdd→ZpT,add_zero→ZqB,reduceLeDiff→Zp1,reduceMul→Zqu,le_refl→ZpY
set_option maxRecDepth 20000
set_option maxHeartbeats 4000000
namespace Go.PV.YtglpmlbbaedbiaaGreat
open Go Go.Proofs
theorem Zmp {l:List Cl} {i:Nat} (h:i<l.length):clsSz (l.drop i)=clSz l[i]+clsSz (l.drop (i+1)):=by
 unfold clsSz; rw [Zql h,Zp3,List.sum_cons]
theorem ZoR (f:Fu) (hs:fuSz f≤1099511627776):PureF Tryz.prog 20 [fuV f] (iV (fuSz f)):=by
 have hl:f.cls.length≤clsSz f.cls:=Zgd ZlN f.cls;obtain ⟨N,hN,hNs,hlN⟩:∃ N,fuSz f=N∧N≤1099511627776∧f.cls.length≤N:=⟨_,rfl,hs,by unfold fuSz; omega⟩
 have h0:1+clsSz f.cls=N:=by rw [← hN]; rfl
 have hc:∀ i (h:i<f.cls.length),clSz f.cls[i]≤N:=fun i h=>by have:=ZaA (f:=clSz) (ZpW h); unfold clsSz at h0; omega
 rw [hN];clear hs hl hN;refine Zp4 fun H=>?_
 refine ZE fd20 (by simp) ?_;delta c20 Zj Zf Zd Zb Ze Zq
 (repeat' (first | (simp only [↓Zz,ZA,ptrV,intV,ZpI,ZpJ,reduceCtorEq,ZD,ZpL,undef,Jf,Zbj,ZaC, *]) | (refine ZB fun zr zh=>?_; have zg:=zh; (try simp only [ZpO] at zg))))
 refine ZP (fun _ _ _ h=>h) (fun A H'=>SubH H H'∧A.d=[]∧A.t 11=clsV f.cls∧A.t 12=iV f.cls.length∧∃ (i n:Nat),i≤f.cls.length∧A.t 13=iV i∧A.t 3=iV n∧n+clsSz (f.cls.drop i)=N)
  (fun A _=>match A.t 13 with | .lit (.int _ i)=>((f.cls.length:Int)-i).toNat | _=>0) ?_ ?_
 ·exact ⟨ZpR zh,rfl,rfl,rfl,0,1,by omega,rfl,rfl,h0⟩
 ·clear h0;rintro ⟨t,d⟩ H' ⟨hs',rfl,h11,h12,i,n,hi,h13,h3,hn⟩;dsimp only at h11 h12 h13 h3;delta b20_2 Zn Zr Zk Zb Zi Zg Zd Zo Za Zh Zc Zq Ze;have hb:∀ i (h:i<f.cls.length),PureF Tryz.prog 5 [exV f.cls[i].body] (.tuple [iV f.cls[i].body.sz,iV f.cls[i].body.dp]):=fun i h=>Zim _ (by have:=hc i h; unfold clSz at this; omega)
  (repeat' (first | (simp only [↓Zz,ZA,ZI,ptrV,intV,ZpI,ZpJ,ZpT,reduceCtorEq,setAt,ZpL,Zc4,ZdS,Jg,Zkn,Yd,Xk,ZnK,Zjh,YQ,ZaC,en_5, *]) | (refine ZX ?_ ?_<;>intro) | (refine ZV rfl (fun _ _ _ h=>h) ?_) | (refine ZB fun zr zh=>?_; have zg:=zh; (try simp only [ZpO] at zg)) | (refine ZpQ (hb _ (by assumption)) ?_)))
  ·rename_i hlt _;have hlt:i<f.cls.length:=by assumption
   have e1:=Zmp hlt;have e2:=hc i hlt;have e3:clSz f.cls[i]=1+pasSz f.cls[i].pats+f.cls[i].body.sz:=rfl;have e4:=XY f.cls[i].pats;have hp:∀ k (h:k<f.cls[i].pats.length),PureF Tryz.prog 43 [paV f.cls[i].pats[k]] (iV f.cls[i].pats[k].sz):=fun k h=>ZoQ _ (by have:=Xm (ZpW h); omega)
   rw [ZK (n:=1+(f.cls[i].body.sz:Int)) (by omega) (by omega),ZK (n:=(n:Int)+(1+(f.cls[i].body.sz:Int))) (by omega) (by omega)]
   refine ZP (fun _ _ _ h=>h) (fun A H'=>SubH H H'∧A.d=[]∧A.t 11=clsV f.cls∧A.t 12=iV f.cls.length∧A.t 13=iV i∧A.t 28=pasV f.cls[i].pats∧A.t 29=iV f.cls[i].pats.length∧∃ (k m:Nat),k≤f.cls[i].pats.length∧A.t 30=iV k∧A.t 3=iV m∧m+pasSz (f.cls[i].pats.drop k)=n+clSz f.cls[i])
    (fun A _=>match A.t 30 with | .lit (.int _ k)=>((f.cls[i].pats.length:Int)-k).toNat | _=>0) ?_ ?_
   ·exact ⟨hs'.of_set (hs'.none zh),rfl,(by simp only [ZC,ZpI,if_false, *]<;>rfl),(by simp only [ZC,ZpI,if_false, *]<;>rfl),(by simp only [ZC,ZpI,if_false, *]<;>rfl),(by simp only [ZC,ZpI,if_true,if_false, *]<;>rfl),(by simp only [ZC,ZpI,if_true,if_false, *]<;>rfl),0,n+(1+f.cls[i].body.sz),by omega,(by simp only [ZC,ZpI,if_true,if_false, *]<;>rfl),by simp [ZC],by rw [e3]; simp only [ZqL]; omega⟩
   ·clear h11 h12 h13 h3 hb;rintro ⟨t,d⟩ H' ⟨hs',rfl,h11,h12,h13,h28,h29,k,m,hk,h30,h3,hm⟩;dsimp only at h11 h12 h13 h28 h29 h30 h3;delta b20_1 Zn Zr Zk Zb Zi Zg Za Zo Zc Zm
    (repeat' (first | (simp only [↓Zz,ZA,ptrV,ZpI,ZpJ,ZpT,reduceCtorEq,setAt,ZpL,Wx,Zay,Zhu,ZdT,YQ,en_43, *]) | (refine ZX ?_ ?_<;>intro) | (refine ZV rfl (fun _ _ _ h=>h) ?_) | (refine ZB fun zr zh=>?_; have zg:=zh; (try simp only [ZpO] at zg)) | (refine ZpS ?_ ?_) | (exact Zqp (by assumption) (by assumption)) | (refine ZpQ (hp _ (by assumption)) ?_) | (with_reducible refine And.intro ?_ ?_)))
    ·have hk2:k<f.cls[i].pats.length:=by assumption
     have e5:=ZbC hk2;rw [ZK (n:=(k:Int)+1) (by omega) (by omega),ZK (n:=(m:Int)+(f.cls[i].pats[k].sz:Int)) (by omega) (by omega)];exact ⟨k+1,m+f.cls[i].pats[k].sz,by omega,rfl,by simp,by omega⟩
    ·rw [ZK (n:=(k:Int)+1) (by omega) (by omega)];omega
    ·delta c20_1 Zm Za;rw [Zp9 (by omega)] at hm;simp only [pasSz,ZqB] at hm;clear h30
     (repeat' (first | (simp only [↓Zz,ZA,ZpI,ZpJ, *]) | (with_reducible refine And.intro ?_ ?_)))
     ·rw [ZK (n:=(i:Int)+1) (by omega) (by omega)];exact ⟨i+1,_,by omega,rfl,rfl,by omega⟩
     ·rw [ZK (n:=(i:Int)+1) (by omega) (by omega)];omega
  ·rw [Zp9 (by omega)] at hn;delta c20_2 Za Zc;have hn':N=n:=by simpa [clsSz] using hn.symm
   subst hn'
   (repeat' (first | (simp only [↓Zz,ZA,ZpI,ZpJ, *]) | (refine ZG ?_)))
theorem cl_take {l:List Cl} {i:Nat} (h:i<l.length):encC clE (l.take (i+1))=encC clE (l.take i)++[pasV l[i].pats,iV l[i].body.op,sV l[i].body.name,encS exE l[i].body.kids]:=by
 rw [XB h,Yl]; rfl
theorem fun_ok (f:Fu) (hs:fuSz f≤1099511627776):PureF Tryz.prog 29 [fuV f] (fuV f):=by
 have hl:f.cls.length≤clsSz f.cls:=Zgd ZlN f.cls;have hN:f.cls.length≤1099511627776:=by unfold fuSz at hs; omega
 have hc:∀ i (h:i<f.cls.length),clSz f.cls[i]≤1099511627776:=fun i h=>by have:=ZaA (f:=clSz) (ZpW h); unfold fuSz clsSz at hs; omega
 have hb:∀ i (h:i<f.cls.length),PureF Tryz.prog 10 [exV f.cls[i].body] (exV f.cls[i].body):=fun i h=>Zin _ (by have:=hc i h; unfold clSz at this; omega)
 have hp:∀ i (h:i<f.cls.length) k (h':k<f.cls[i].pats.length),PureF Tryz.prog 53 [paV f.cls[i].pats[k]] (paV f.cls[i].pats[k]):=fun i h k h'=>copyP_ok _ (by have h1:=hc i h; have h2:=Xm (ZpW h'); unfold clSz at h1; omega)
 have hpl:∀ i (h:i<f.cls.length),f.cls[i].pats.length≤1099511627776:=fun i h=>by have h1:=hc i h; have h2:=XY f.cls[i].pats; unfold clSz at h1; omega
 clear hs hl hc;refine JN.pure fun H0=>?_
 refine ZE fd29 (by simp) ?_;delta c29 Zj Zi Zd Zb Zq Zr Zg Ze
 (repeat' (first | (simp only [↓Zz,ZA,ptrV,intV,ZpI,ZpJ,ZpT,Zp1,reduceCtorEq,ZD,ZM,fillV,setAt,ZpL,undef,ZfS,JQ,Jf,ZW,ZQ,Zbj,ZkL,stT_81,Zdx,ZaC, *]) | (refine ZB fun zr zh=>?_; have zg:=zh; (try simp only [ZpO] at zg))))
 rename_i r1 n1 n1' r2 n2 n2';obtain ⟨⟨d32,d23⟩,⟨d31,d13⟩,n3⟩:=zg;obtain ⟨⟨d21,d12⟩,n2''⟩:=n2'
 have hb0:InB (H0.set r2 (.cells 81 [.lit (.string { data:=#[] }),.lit (.int .i64 0),.lit (.slice none 0 0)] 0)) (((H0.set r1 (.cells 67 (fuE f) 0)).set r2 (.cells 81 [.lit (.string { data:=#[] }),.lit (.int .i64 0),.lit (.slice none 0 0)] 0)).set zr (.cells 81 [sV f.name,iV f.arity,.lit (.slice none 0 0)] 0)) zr 81 [sV f.name,iV f.arity] [] 78 4 0 [] (.lit (.slice none 0 0)) _ :=
  InB.start (ZpP _ _ _) (((ZpR n1).set _ _).trans (ZpR zh)) (by simp only [ZpU, *,if_false])
 generalize hH1:((H0.set r1 (.cells 67 (fuE f) 0)).set r2 (.cells 81 [.lit (.string { data:=#[] }),.lit (.int .i64 0),.lit (.slice none 0 0)] 0)).set zr (.cells 81 [sV f.name,iV f.arity,.lit (.slice none 0 0)] 0)=H1 at hb0
 refine ZP (fun _ _ _ h=>h) (fun A H=>A.d=[]∧A.t 2=ptrV r2 0∧A.t 3=ptrV zr 0∧A.t 15=clsV f.cls∧A.t 16=iV f.cls.length∧∃ (i:Nat) (v:VV) (Hb:AH),i≤f.cls.length∧A.t 17=iV i∧InB (H0.set r2 (.cells 81 [.lit (.string { data:=#[] }),.lit (.int .i64 0),.lit (.slice none 0 0)] 0)) H zr 81 [sV f.name,iV f.arity] [] 78 4 i (encC clE (f.cls.take i)) v Hb)
  (fun A _=>match A.t 17 with | .lit (.int _ i)=>((f.cls.length:Int)-i).toNat | _=>0) ?_ ?_
 ·exact ⟨rfl,rfl,rfl,rfl,rfl,0,_,_,by omega,rfl,hb0⟩
 ·clear hb0 hH1 n2 zh;rintro ⟨t,d⟩ H ⟨rfl,h2,h3,h15,h16,i,v,Hb,hi,h17,hbl⟩;dsimp only at h2 h3 h15 h16 h17;have q3:=hbl.at;have q2:=hbl.cell2;delta b29_2 Zn Zr Zk Zb Zi Zg Zd Zo Zq Ze
  (repeat' (first | (simp only [↓Zz,ZA,ptrV,intV,ZpI,ZpJ,ZpT,reduceCtorEq,ZM,fillV,setAt,ZpL,Zc4,ZdS,Jg,Zkn,Yd,Xk,ZnK,Zm4,stT_78,Zjh,Zdy,YQ,ZaC,Zmd, *]) | (refine ZX ?_ ?_<;>intro) | (refine ZV rfl (fun _ _ _ h=>h) ?_) | (refine ZB fun zr zh=>?_; have zg:=zh; (try simp only [ZpO] at zg); (try have zn_q2:=ZpK q2 zh); (try have zn_q2:=ZpK q2 zg.2); (try have zn_q2:=ZpK q2 zg.2.2); (try have zn_q3:=ZpK q3 zh); (try have zn_q3:=ZpK q3 zg.2); (try have zn_q3:=ZpK q3 zg.2.2)) | (refine ZpQ (hb _ (by assumption)) ?_)))
  ·have hlt:i<f.cls.length:=by assumption
   rename_i r5 n5 n5' e25 e35;have hb5:=hbl.alloc n5 (.cells 124 [pasV f.cls[i].pats,iV f.cls[i].body.op,sV f.cls[i].body.name,exsV f.cls[i].body.kids] 0);obtain ⟨X,hX⟩:∃ X,X=H.set r5 (.cells 124 [pasV f.cls[i].pats,iV f.cls[i].body.op,sV f.cls[i].body.name,exsV f.cls[i].body.kids] 0):=⟨_,rfl⟩
   rw [← hX] at zh hb5;rw [← hX];clear hX n5 n5' q2 q3 hbl
   have hin:InB X (X.set zr (.cells 78 [.lit (.slice none 0 0),iV f.cls[i].body.op,sV f.cls[i].body.name,encS exE f.cls[i].body.kids] 0)) zr 78 [] [iV f.cls[i].body.op,sV f.cls[i].body.name,encS exE f.cls[i].body.kids] 74 3 0 [] (.lit (.slice none 0 0)) _ :=
    InB.start (ZpP _ _ _) (ZpR zh) zh
   have hpl':=hpl i hlt;have hp':=hp i hlt
   refine ZP (fun _ _ _ h=>h) (fun A H'=>A.d=[]∧A.t 2=ptrV r2 0∧A.t 3=t 3∧A.t 15=clsV f.cls∧A.t 16=iV f.cls.length∧A.t 17=iV i∧A.t 6=ptrV zr 0∧A.t 26=pasV f.cls[i].pats∧A.t 27=iV f.cls[i].pats.length∧∃ (k:Nat) (w:VV) (Hc:AH),k≤f.cls[i].pats.length∧A.t 28=iV k ∧
    InB X H' zr 78 [] [iV f.cls[i].body.op,sV f.cls[i].body.name,encS exE f.cls[i].body.kids] 74 3 k (encC paE (f.cls[i].pats.take k)) w Hc)
    (fun A _=>match A.t 28 with | .lit (.int _ k)=>((f.cls[i].pats.length:Int)-k).toNat | _=>0) ?_ ?_
   ·exact ⟨rfl,(by simp only [ZC,ZpI,if_false, *]<;>rfl),(by simp only [ZC,ZpI,if_false, *]<;>rfl),(by simp only [ZC,ZpI,if_false, *]<;>rfl),(by simp only [ZC,ZpI,if_false, *]<;>rfl),(by simp only [ZC,ZpI,if_false, *]<;>rfl),(by simp only [ZC,ZpI,if_true,if_false, *]<;>rfl),(by simp only [ZC,ZpI,if_true,if_false, *]<;>rfl),(by simp only [ZC,ZpI,if_true,if_false, *]<;>rfl),0,_,_,by omega,(by simp only [ZC,ZpI,if_true,if_false, *]<;>rfl),hin⟩
   ·rw [h3];clear hin h2 h3 h15 h16 h17 hb hp hpl;rintro ⟨t,d⟩ H' ⟨rfl,h2,h3,h15,h16,h17,h6,h26,h27,k,w,Hc,hk,h28,hi2⟩;dsimp only at h2 h3 h15 h16 h17 h6 h26 h27 h28;have q6:=hi2.at;delta b29_1 Zn Zr Zk Zb Zi Zg Zd Zo Zq Zl Zm Za
    (repeat' (first | (simp only [↓Zz,ZA,ptrV,ZpI,ZpJ,ZpT,Zqu,Zp1,reduceCtorEq,fillV,setAt,ZpL,ZH,Wx,ZH,Zcs,Zay,ZaD,Zhu,ZdT,YQ,WK,Jy,en_53, *]) | (refine ZX ?_ ?_<;>intro) | (refine ZJ mixed (fun _ _ _ _ e h=>⟨e.trans h.1,h.2⟩) _ (ZpN _) ?_) | (refine ZB fun zr zh=>?_; have zg:=zh; (try simp only [ZpO] at zg); (try have zn_q6:=ZpK q6 zh); (try have zn_q6:=ZpK q6 zg.2); (try have zn_q6:=ZpK q6 zg.2.2)) | (exact ZpN _) | (refine ZpQ (hp' _ (by assumption)) ?_) | (with_reducible refine And.intro ?_ ?_)))
    ·have hkt:k<f.cls[i].pats.length:=by assumption
     have hi3:=hi2.alloc zh (.cells 126 [bV f.cls[i].pats[k].con,sV f.cls[i].pats[k].name,encS paE f.cls[i].pats[k].kids] 0);refine WH WK Jy rfl (by omega) hi3.own rfl rfl (by omega) (by omega) (fun w' H'' ho=>?_);have hi4:=hi3.next ho;have q6':=ho.sub _ _ hi3.blk;have hc1:=ho.cells.1;have hc2:=ho.cells.2;clear hi3 hi2 q6 ho
     (repeat' (first | (simp only [↓Zz,ZA,ptrV,ZpI,ZpJ,ZpT,Zp1,setAt,Zcs,szT_72, *]) | (with_reducible refine And.intro ?_ ?_)))
     all_goals rw [ZK (n:=(k:Int)+1) (by omega) (by omega)]
     ·rw [← Zn6 hkt] at hi4;exact ⟨k+1,w',_,by omega,rfl,hi4⟩
     ·omega
    ·have hke:k=f.cls[i].pats.length:=by omega
     subst hke;rw [Zqr (ZpY _)] at hi2;refine WN (hi2.ghost _ _) ?_;have hb6:=hb5.alloc hi2.new (.cells 78 (clE f.cls[i]) 0);have q3:=hb6.at;have q2:=hb6.cell2;have q6':(X.set zr (.cells 78 (clE f.cls[i]) 0)) zr=some (.cells 78 (clE f.cls[i]) 0):=ZpP _ _ _;clear hi2 q6 hb5;show ACx _ _ _ _ (X.set zr (.cells 78 (clE f.cls[i]) 0));generalize X.set zr (.cells 78 (clE f.cls[i]) 0)=Y at *
     delta c29_1 Zd Zb Zq Zr Zl Zg
     (repeat' (first | (simp only [↓Zz,ZA,ptrV,ZpI,ZpJ,ZpT,Zqu,Zp1,fillV,setAt,ZpL,ZH,ZH,ZdA,ZkM,Zm5,Zdy,ZfC, *]) | (refine ZV rfl (fun _ _ _ h=>h) ?_)))
     refine WH ZfC Zdy rfl (by omega) hb6.own rfl rfl (by omega) (by omega) (fun v' H'' ho=>?_);have hb7:=hb6.next ho;have q3':=ho.sub _ _ hb6.blk;have hc1:=ho.cells.1;have hc2:=ho.cells.2;clear hb6 q3 q2 ho q6';delta c29_2 Zm Za
     (repeat' (first | (simp only [↓Zz,ZA,ptrV,ZpI,ZpJ,ZpT,setAt,ZdA,szT_79, *]) | (refine ZV rfl (fun _ _ _ h=>h) ?_) | (with_reducible refine And.intro ?_ ?_)))
     all_goals rw [ZK (n:=(i:Int)+1) (by omega) (by omega)]
     ·rw [← cl_take hlt] at hb7;exact ⟨i+1,v',_,by omega,rfl,hb7⟩
     ·omega
  ·have hin:i=f.cls.length:=by omega
   subst hin;rw [Zqr (ZpY _)] at hbl;have hc1:=hbl.own.cells.1;have hc2:=hbl.own.cells.2;delta c29_3 Zb Zg
   (repeat' (first | (simp only [↓Zz,ZA,ptrV,ZpI,ZpJ,ZpT,setAt,ZpL,Zg8,ZkL, *])))
   refine ZdC Zg8 (by simp only [ZC,ZpI,if_false, *]; rfl) (ZpP _ _ _) (by rw [ZqL]; exact XT _ _ _ _) ?_;exact ⟨_,rfl,GhV.agg (hbl.ret n2'' _)⟩
end Go.PV.YtglpmlbbaedbiaaGreat
end
section
namespace Go.PV
open Go
def smap (m:ByteArray→Option VV):Value→Option VV
 | .string s=>m s
 | _=>none
def supd (m:ByteArray→Option VV) (s:ByteArray) (y:VV):ByteArray→Option VV:=fun s'=>if s'=s then some y else m s'
theorem smap_set (m:ByteArray→Option VV) (s:ByteArray) (y:VV):mset (smap m) (.string s) y=smap (supd m s y):=by
 funext k
 by_cases h:k=.string s
 ·subst h; rw [ZdP]; simp [smap,supd]
 ·rw [Zel _ _ h];cases k<;>simp only [smap,supd]<;>try rfl
  rename_i s';rw [if_neg]; rintro rfl; exact h rfl
theorem smap_nil:(fun _=>none:Value→Option VV)=smap (fun _=>none):=by funext k; cases k<;>rfl
structure Zew (P:Program) (t:TypeId) (z:Value):Prop where
 mt:MapT P t z
 all:∀ s:ByteArray,s.size≤maxLen→Jq P t (.string s)
section
variable {P:Program} {t:TypeId} {z:Value} {H:AH} {K:VE→AH→Prop} {r:Nat} {m:ByteArray→Option VV} {s:ByteArray}
theorem Zjs {ok:Bool} (h:Zew P t z) (hz:s.size≤maxLen) (hr:H r=some (.map (Jq P t) (smap m))) (hk:(∀ y,m s=some y→K (.ret (okV ok y true)) H)) (hn:m s=none→K (.ret (okV ok (.lit z) false)) H):ZaT P t (.lit (.map (some r))) (.lit (.string s)) ok H K:=by
 refine ⟨z,h.mt,.string s,rfl,h.all s hz,?_⟩;simp only [hr];refine ⟨fun _ h=>h,?_⟩;show (match m s with | some y=>K (.ret (okV ok y true)) H | none=>K (.ret (okV ok (.lit z) false)) H);cases hm:m s with
 | some y=>exact hk y hm
 | none=>exact hn hm
theorem Zjt {y:VV} (h:Zew P t z) (hz:s.size≤maxLen) (hr:H r=some (.map (Jq P t) (smap m))) (hk:K (.ret ZD) (H.set r (.map (Jq P t) (smap (supd m s y))))):ZaU P t (.lit (.map (some r))) (.lit (.string s)) y H K:=by
 refine ⟨z,h.mt,.string s,rfl,h.all s hz,?_⟩;simp only [hr,smap_set];exact ⟨fun _ h=>h,h.all s hz,hk⟩
end
theorem strMap {P:Program} {t kt et:TypeId} {z:Value} (hu:P.underlying t=some (.map kt et)) (hs:P.underlying kt=some .string) (hz:zeroV P et=some z):Zew P t z:=by
 refine ⟨⟨kt,et,hu,Go.Maps.string_keyed hs,hz⟩,fun s hl=>?_⟩
 have:∃ l,keyOf P kt (.string s)=some l:=by
  simp only [keyOf,hs,mapKey,hl,if_true];exact ⟨_,rfl⟩
 obtain ⟨l,hl⟩:=this;exact ⟨kt,et,l,hu,hl⟩
end Go.PV
end
section
open List renaming take_of_length_le→Zqr,length_append→Zqt
open Nat renaming le_refl→ZpY
set_option maxRecDepth 20000
set_option maxHeartbeats 4000000
namespace Go.PV.YtglpmlbbaedbiaaGreat
open Go Go.Proofs
theorem ZdE {α:Type} {enc:α→List VV} (h:∀ a,(enc a).all VV.one=true) (l:List α):(encC enc l).all VV.one=true:=by
 induction l with
 | nil=>rfl
 | cons x l ih=>rw [YF]; simp [ih,h x]
theorem Zex {α:Type} {enc:α→List VV} {k:Nat} (h:∀ a,(enc a).length=k) (H:AH) (ex:Bool) (l:List α):srcV H k (.slice ex l.length (encC enc l))=some (l.length,encC enc l):=by
 have e:=ZbT h l;simp only [srcV,e,ZpY,if_true];rw [Zqr (by omega)]
mutual
def Pa.names:Pa→List ByteArray
 | .mk c n ks=>if c=true then ZY ks else [n]
def ZY:List Pa→List ByteArray
 | []=>[]
 | p::l=>p.names++ZY l
end
theorem Pa.names_eq (p:Pa):p.names=if p.con=true then ZY p.kids else [p.name]:=by cases p; rfl
theorem ZcU:∀ (l m:List Pa),ZY (l++m)=ZY l++ZY m
 | [],m=>rfl
 | p::l,m=>by rw [List.cons_append,ZY,ZY,ZcU l m,List.append_assoc]
mutual
theorem Pa.names_len:∀ p:Pa,p.names.length≤p.sz
 | .mk c n ks=>by
   have:=Ju ks
   rw [Pa.names,Pa.sz];split
   ·omega
   ·simp
theorem Ju:∀ l:List Pa,(ZY l).length≤pasSz l
 | []=>by simp [ZY]
 | p::l=>by have:=Pa.names_len p; have:=Ju l; rw [ZY,pasSz,Zqt]; omega
end
theorem Zn8 (s:ByteArray):(strE s).all VV.one=true:=rfl
theorem Zey {l:List Pa} {i:Nat} (h:i<l.length):ZY (l.take (i+1))=ZY (l.take i)++l[i].names:=by
 rw [XB h,ZcU]; simp [ZY]
theorem ZcV:∀ (l:List Pa) (i:Nat),pasSz (l.take i)≤pasSz l
 | [],i=>by simp
 | p::l,0=>by simp [pasSz]
 | p::l,i+1=>by rw [List.take_succ_cons,pasSz,pasSz]; have:=ZcV l i; omega
open Classical in
theorem ZhF {l:List ByteArray} {s:ByteArray}:(l++[s]).Nodup↔l.Nodup∧s ∉ l:=by
 rw [List.nodup_append]
 constructor
 ·rintro ⟨h1,h2,h3⟩;exact ⟨h1,fun h=>h3 s h s (by simp) rfl⟩
 ·rintro ⟨h1,h2⟩;refine ⟨h1,by simp,fun a ha b hb=>?_⟩;simp at hb; subst hb; rintro rfl; exact h2 ha
theorem ZhG {l:List ByteArray} (h:l.Nodup) (i:Nat):(l.take i).Nodup:=h.sublist (List.take_sublist _ _)
end Go.PV.YtglpmlbbaedbiaaGreat
end
section
open List renaming take_append_drop→ZqV,length_cons→Zqb,append_nil→ZqJ
namespace Go.PV
open Go.ChangeShapes Go.WideShapes Go.RowKit
abbrev old (w:World) (r:Nat):Prop:=r<w.heap.size
theorem sim_old (w:World):Sim (old w) AH.nil w:=⟨fun r b h=>by simp [AH.nil] at h,fun r b h=>by simp [AH.nil] at h,fun r h=>h⟩
section
variable {P:Program} {α β:Type} {t e:TypeId} {enc:α→List VV} {dom:α→Prop} {enc':β→List VV} {dom':β→Prop}
theorem RvL.split {S:Nat→Prop} {w:World} {xs ys:List VV} {cs:List Value} {k:Nat} (h1:RvL S w xs (cs.take k)) (h2:RvL S w ys (cs.drop k)):RvL S w (xs++ys) cs:=by
 have:=h1.append h2
 rwa [ZqV] at this
theorem Zfo {S:Nat→Prop} {w:World}:∀ {xs:List VV} {cs:List Value} {r o:Nat},RvL S w xs cs→(∀ j,j<cs.length→w.cell? ⟨r,o+j,none⟩=cs[j]?)→RvC S w xs r o
 | [],_,_,_,_,_=>trivial
 | x::xs,cs,r,o,h,hc=>by
   obtain ⟨u,us,rfl,h1,h2⟩:=h;refine ⟨⟨u,by simpa using hc 0 (by simp),h1⟩,Zfo h2 fun j hj=>?_⟩
   have:=hc (j+1) (by simpa using hj)
   rw [show o+1+j=o+(j+1) by omega];simpa using this
theorem RvC.append {S:Nat→Prop} {w:World}:∀ {xs ys:List VV} {r o:Nat},RvC S w xs r o→RvC S w ys r (o+xs.length)→RvC S w (xs++ys) r o
 | [],_,_,_,_,h=>h
 | x::xs,ys,r,o,h,h'=>⟨h.1,RvC.append h.2 (by rw [Zqb] at h'; rw [show o+1+xs.length=o+(xs.length+1) by omega]; exact h')⟩
theorem ZoS {w:World} {r:Reach} {base:Nat} {v:Value} {k:IntKind} (ht:P.underlying t=some (.int k)) (h:Value.okWide P w r base t v):v.cells.toList=[v]:=by
 obtain ⟨n,rfl⟩:=okWide_int ht h;rfl
end
section
variable {P:Program}
theorem Zmq {W W':World} {S':Nat→Prop} {H':AH} (h:Step (old W) AH.nil W S' H' W'):Below W.heap.size W W':=⟨h.os,h.tape,h.output,h.size,fun k hk=>h.fr k hk rfl⟩
theorem Zez {H:Type} {en:TypeId × Value→H} (hl:laidOutB P=true) {W W':World} (hb:Below W.heap.size W W') {sp:Nat→Bool}:∀ {ts:List TypeId} {vs:List Value} {ds:List (DataW H)} {ps:List MemPlace},
 (∀ t∈ts,P.readableRec t=true∧t<P.types.size)→DataW.TrodAll en P W 0 (fun _=>true) true ts vs ds ps→(∀ x∈ps,x.block<W.heap.size)→(∀ x∈ps,sp x.block=true)→DataW.TrodAll en P W' 0 sp true ts vs ds ps
 | [],vs,ds,ps,_,h,_,_=>by obtain ⟨rfl,rfl,rfl⟩:=trodAll_nil h; exact trodAll_mk0
 | t::ts,vs,ds,ps,hr,h,hlt,hsp=>by
   obtain ⟨v,vs',d,ds',p,q,rfl,rfl,rfl,h1,h2⟩:=trodAll_cons h;obtain ⟨r1,r2⟩:=hr t (List.mem_cons_self ..)
   exact trodAll_cons_mk (WideElems.Trod_stays hl r1 r2 h1 (fun x hx=>hb.same (hlt x (by simp [hx]))) (fun x hx=>hsp x (by simp [hx])))
    (Zez hl hb (fun t ht=>hr t (List.mem_cons_of_mem _ ht)) h2 (fun x hx=>hlt x (by simp [hx])) (fun x hx=>hsp x (by simp [hx])))
theorem ZoT {H:Type} {en:TypeId × Value→H} {fn:Func} {s:ChangeSpec} {apart fresh handsOn again:Bool} {W W':World} {args:Array Value} {ds gs:List (DataW H)} {before:List MemPlace} {tb:TypeId}
 (hl:laidOutB P=true) (hr:(fn.params.toList.all fun t=>P.readableRec t && decide (t<P.types.size))=true) (hres:fn.resultTypes=#[tb]) (htb:P.underlying tb=some .bool) (hvars:s.vars=[])
 (hW:DataW.Whole en P fn.params.toList s.vars apart W args.toList ds gs before) (hs:s.fn H (ds++gs)={ results:=[.lit (.bool true)],args:=ds })
 (hb:Below W.heap.size W W'):s.post en P fn apart fresh handsOn again W args (.bool true) W':=by
 have hlt:=hW.lt;have hW':=hW;obtain ⟨p,q,hA,hV,rfl,hfz,hnd⟩:=hW
 have hq:gs=[]∧q=[]:=by
  have hV':DataW.TrodVars en P W (fun _=>true) s.vars gs q:=hV;rw [hvars] at hV';exact trodVars_none hV'
 obtain ⟨rfl,rfl⟩:=hq;simp only [ZqJ] at hW' hs hfz hnd hlt
 have hrr:∀ t∈fn.params.toList,P.readableRec t=true∧t<P.types.size:=fun t ht=>by
  have:=List.all_eq_true.1 hr t ht
  simpa using this
 have hres':∀ (b:Nat) (sp:Nat→Bool) (hd:Bool),DataW.TrodAll en P W' b sp hd fn.resultTypes.toList ((Value.bool true).resultList fn.resultTypes.size) [.lit (.bool true)] []:=fun b sp hd=>by
  rw [hres];exact trodAll_cons_mk (p:=[]) (p':=[]) (shut_bool htb _) trodAll_mk0
 have hargs:∀ sp:Nat→Bool,(∀ x∈p,sp x.block=true)→DataW.TrodAll en P W' 0 sp true fn.params.toList args.toList ds p:=fun sp hsp=>Zez hl hb hrr hA hlt hsp
 have hv:∀ sp:Nat→Bool,DataW.TrodVars en P W' sp s.vars [] []:=fun sp=>by rw [hvars]; exact rfl
 have hold:∀ x∈p,(fun b=>decide (b<W.heap.size)) x.block=true:=fun x hx=>by simpa using hlt x hx
 refine ⟨ds,[],p,[],p,[],hW',?_,?_,?_,hb.frame _,fun _=>⟨?_,_,_,([]++p)++[],⟨[]++p,[],trodAll_append (hargs (fun _=>true) fun _ _=>rfl) (hres' _ _ _),hv _,rfl,?_,?_⟩,?_⟩⟩
 ·simp only [ZqJ,hs]; exact hres' _ _ _
 ·simp only [ZqJ,hs]; exact hargs _ hold
 ·simp only [ZqJ,hs]; exact hv _
 ·exact ok_one hres rfl (okWide_bool_mk htb _)
 ·intro b off hp;have hp':MemPlace.cell b off∈p:=by simpa using hp
  rw [hb.frozen (p:=⟨b,off,none⟩) (hlt _ hp')];exact hfz b off hp'
 ·intro ha
  have:=hnd ha
  simpa using this
 ·intro x hx _;simpa using hx
theorem Zmr {H:Type} {en:TypeId × Value→H} {f:FuncId} {fn:Func} {s:ChangeSpec} {apart fresh handsOn again:Bool} {W:World} {args:Array Value} {ds gs:List (DataW H)} {before:List MemPlace} {tb:TypeId} {xs:List VV}
 (hl:laidOutB P=true) (hr:(fn.params.toList.all fun t=>P.readableRec t && decide (t<P.types.size))=true) (hres:fn.resultTypes=#[tb]) (htb:P.underlying tb=some .bool) (hvars:s.vars=[])
 (hW:DataW.Whole en P fn.params.toList s.vars apart W args.toList ds gs before) (hs:s.fn H (ds++gs)={ results:=[.lit (.bool true)],args:=ds })
 (hx:RvL (old W) W xs args.toList) (h:PureF P f xs (boolV true)):Calls P f args W fun e W'=>∃ v,e=.returned v∧s.post en P fn apart fresh handsOn again W args v W':=by
 refine (h AH.nil (old W) W args (sim_old W) hx).calls (Zk5 P none) |>.mono fun e W' hq=>?_
 cases e with
 | returned v =>
   obtain ⟨S',H',x,h1,h2,h3,h4,_⟩:=hq;simp only [VE.ret.injEq] at h4;subst h4;simp only [boolV,Rv] at h3;subst h3;exact ⟨_,rfl,ZoT hl hr hres htb hvars hW hs (Zmq h1)⟩
 | panicked ch=>obtain ⟨S',H',h1,h2,h3,_⟩:=hq; simp at h3
 | outgrown=>exact hq.elim
end
end Go.PV
end
section
open List renaming drop_eq_nil_of_le→Zp9,getElem?_cons_zero→ZqE,map_cons→Zp3,getElem?_eq_getElem→ZqC,getElem_mem→ZpW
open Nat renaming le_refl→ZpY
namespace Go.PV
open Go.ChangeShapes Go.WideShapes Go.RowKit
mutual
def bulkD {H:Type}:DataW H→Nat
 | .lit (.string bytes)=>bytes.length+1
 | .lit _=>1
 | .nil=>1
 | .ptr d=>bulkD d+1
 | .slice elems spare=>bulkA elems+bulkA spare+1
 | .agg parts=>bulkA parts+1
 | .iface _ d=>bulkD d+1
 | .map entries=>bulkE entries+1
 | .held _=>1
def bulkA {H:Type}:List (DataW H)→Nat
 | []=>0
 | d::r=>bulkD d+bulkA r
def bulkE {H:Type}:List (Lit × DataW H)→Nat
 | []=>0
 | x::r=>bulkX x+bulkE r
def bulkX {H:Type}:Lit × DataW H→Nat
 | (.string bytes,d)=>bytes.length+bulkD d+1
 | (_,d)=>bulkD d+1
end
def RdN (n:Nat) (P:Program) (t:TypeId) {α:Type} (enc:α→List VV) (dom:α→Prop) (msr:α→Nat):Prop :=
 ∀ (H:Type) (en:TypeId × Value→H) (w:World) (base:Nat) (spare:Nat→Bool) (held:Bool) (fuel:Nat) (cs:List Value) (d:DataW H) (ps:List MemPlace),
   DataW.trod en P w base spare held fuel t cs=some (d,ps)→bulkD d≤n→∃ a,dom a∧msr a≤bulkD d∧RvL (old w) w (enc a) cs
def RdNFs (n:Nat) (P:Program) (fs:List Field) (off tot:Nat) {α:Type} (enc:α→List VV) (dom:α→Prop) (msr:α→Nat):Prop :=
 ∀ (H:Type) (en:TypeId × Value→H) (w:World) (base:Nat) (spare:Nat→Bool) (held:Bool) (k:Nat) (cs:List Value) (xs:List (DataW H × List MemPlace)),
   cs.length=tot→xs.length=fs.length→(∀ (i:Nat) (f:Field),fs[i]?=some f→DataW.trod en P w base spare held k f.type ((cs.drop f.offset).take (P.cellsOf f.type))=xs[i]?) →
   bulkA (xs.map (·.1))≤n→∃ a,dom a∧msr a≤bulkA (xs.map (·.1))∧RvL (old w) w (enc a) (cs.drop off)
theorem Zd4 {H:Type} (d:DataW H):1≤bulkD d:=by
 cases d with
 | lit l=>cases l<;>simp [bulkD]
 | _=>simp [bulkD]
section
variable {n:Nat} {P:Program} {α β:Type} {t e:TypeId} {enc:α→List VV} {dom:α→Prop} {msr:α→Nat} {enc':β→List VV} {dom':β→Prop} {msr':β→Nat}
theorem ZeA (g:α→β) (h:RdN n P t enc dom msr) (h1:∀ a,enc' (g a)=enc a) (h2:∀ a,dom a→dom' (g a)) (h3:∀ a,msr' (g a)≤msr a):RdN n P t enc' dom' msr':=by
 intro H en w base spare held fuel cs d ps ht hw;obtain ⟨a,ha,hm,hr⟩:=h H en w base spare held fuel cs d ps ht hw;exact ⟨g a,h2 a ha,Nat.le_trans (h3 a) hm,by rw [h1]; exact hr⟩
theorem Zav:RdN 0 P t enc dom msr:=by
 intro H en w base spare held fuel cs d ps ht hw
 have:=Zd4 d
 omega
theorem ZhH {k:IntKind} (ht:P.underlying t=some (.int k)):RdN n P t (fun n:Int=>[.lit (.int k n)]) (fun n=>(Lit.int k n).wf=true) (fun _=>1):=by
 intro H en w base spare held fuel cs d ps h _;obtain ⟨m,rfl,_,hw⟩:=DataW.trod_int ht h;exact ⟨m,hw,Zd4 d,_,[],rfl,rfl,rfl⟩
theorem rdn_bool (ht:P.underlying t=some .bool):RdN n P t (fun b:Bool=>[VV.lit (.bool b)]) (fun _=>True) (fun _=>1):=by
 intro H en w base spare held fuel cs d ps h _;obtain ⟨b,rfl,_⟩:=DataW.trod_bool ht h;exact ⟨b,trivial,Zd4 d,_,[],rfl,rfl,rfl⟩
theorem ZcW (ht:P.underlying t=some .string):RdN n P t (fun s:ByteArray=>[VV.lit (.string s)]) (fun _=>True) (fun s=>s.size+1):=by
 intro H en w base spare held fuel cs d ps h hw;obtain ⟨s,rfl,hx,hm⟩:=DataW.trod_string ht h;simp only [Prod.mk.injEq] at hx;obtain ⟨rfl,rfl⟩:=hx;refine ⟨s,trivial,?_,_,[],rfl,rfl,rfl⟩;simp only [bulkD,Array.length_toList];exact ZpY _
theorem Zbr (tot:Nat):RdNFs n P [] tot tot (fun _:Unit=>[]) (fun _=>True) (fun _=>0):=by
 intro H en w base spare held k cs xs hl _ _ _;refine ⟨(),trivial,Nat.zero_le _,?_⟩;rw [Zp9 (by omega)];rfl
theorem Xs {f:Field} {fs:List Field} {off tot k:Nat} (ho:f.offset=off) (hk:P.cellsOf f.type=k) (h1:RdN n P f.type enc dom msr) (h2:RdNFs n P fs (off+k) tot enc' dom' msr') :
 RdNFs n P (f::fs) off tot (fun p:α × β=>enc p.1++enc' p.2) (fun p=>dom p.1∧dom' p.2) (fun p=>msr p.1+msr' p.2):=by
 intro H en w base spare held m cs xs hl hx hr hw;cases xs with
 | nil=>simp at hx
 | cons x xs =>
   have h0:=hr 0 f (by simp);simp only [ZqE] at h0;simp only [Zp3,bulkA] at hw ⊢;obtain ⟨a,ha,hma,hra⟩:=h1 H en w base spare held m _ x.1 x.2 h0 (by omega);obtain ⟨b,hb,hmb,hrb⟩:=h2 H en w base spare held m cs xs hl (by simpa using hx) (fun i f hf=>by simpa using hr (i+1) f (by simpa using hf)) (by omega);refine ⟨(a,b),⟨ha,hb⟩,by show msr a+msr' b≤_; omega,RvL.split (k:=k) ?_ ?_⟩
   ·rw [ho,hk] at hra; exact hra
   ·rw [List.drop_drop]; exact hrb
theorem ZaG {fs:Array Field} {tot:Nat} (ht:P.underlying t=some (.struct fs)) (hc:P.cellsOf t=tot) (h:RdNFs n P fs.toList 0 tot enc dom msr):RdN (n+1) P t enc dom (fun a=>msr a+1):=by
 intro H en w base spare held fuel cs d ps hr hw;obtain ⟨xs,k,_,hx,hl,hxl,hf⟩:=DataW.trod_struct ht hr;simp only [Prod.mk.injEq] at hx;obtain ⟨rfl,rfl⟩:=hx;simp only [bulkD] at hw ⊢;obtain ⟨a,ha,hm,hra⟩:=h H en w base spare held k cs xs (by rw [hl,hc]) (by simpa using hxl) (fun i f hi=>hf i f (by simpa using hi)) (by omega);exact ⟨a,ha,by show msr a+1≤_; omega,by simpa using hra⟩
theorem ZhI {S:Nat→Prop} {w:World} {k r:Nat} (hl:∀ a,(enc a).length=k):∀ (bs:List Nat) (o:Nat),(∀ i (h:i<bs.length),∃ a,dom a∧msr a≤bs[i]∧RvC S w (enc a) r (o+i * k))→∃ l,l.length=bs.length∧(∀ a∈l,dom a)∧(l.map msr).sum≤bs.sum∧RvC S w (encC enc l) r o
 | [],_,_=>⟨[],rfl,by simp,by simp,trivial⟩
 | b::bs,o,h=>by
   obtain ⟨a,ha,hm,hr⟩:=h 0 (by simp)
   obtain ⟨l,hn,hd,hs,hrl⟩:=ZhI hl bs (o+k) fun i hi=>by
    obtain ⟨b,hb,hmb,hrb⟩:=h (i+1) (by simpa using hi);exact ⟨b,hb,by simpa using hmb,by rw [Nat.succ_mul] at hrb; rw [show o+k+i * k=o+(i * k+k) by omega]; exact hrb⟩
   refine ⟨a::l,by simp [hn],?_,?_,?_⟩
   ·intro b hb;rcases List.mem_cons.1 hb with rfl | hb
    ·exact ha
    ·exact hd b hb
   ·simp only [Zp3,List.sum_cons];simp only [List.getElem_cons_zero] at hm;omega
   ·rw [YF];exact RvC.append (by simpa using hr) (by rw [hl]; exact hrl)
theorem Zju {H:Type}:∀ (l:List (DataW H)),bulkA l=(l.map bulkD).sum
 | []=>rfl
 | d::l=>by rw [bulkA,Zju l]; rfl
theorem Zjv {H:Type} {d:DataW H}:∀ {l:List (DataW H)},d∈l→bulkD d≤bulkA l
 | x::l,h=>by
   rw [bulkA];rcases List.mem_cons.1 h with rfl | h
   ·omega
   ·have:=Zjv h; omega
theorem ZoU {k:Nat} (ht:P.underlying t=some (.slice e)) (hc:P.cellsOf e=k) (hk:0<k) (h:RdN n P e enc dom msr) (hl:∀ a,(enc a).length=k) :
 RdN (n+1) P t (fun l=>[encS enc l]) (fun l=>∀ a∈l,dom a) (fun l=>(l.map msr).sum+1):=by
 intro H en w base spare held fuel cs d ps hr hw;rcases DataW.trod_slice ht hr with ⟨rfl,_⟩ | ⟨a,len,cap,elems,rest,n',_,rfl,hx,_,hlc,hcm,hlen,hel,_,_⟩
 ·exact ⟨[],by simp,by simpa using Zd4 d,_,[],rfl,⟨none,0,rfl,⟨by simp,by simp⟩,by simp⟩,rfl⟩
 ·simp only [Prod.mk.injEq] at hx;obtain ⟨rfl,rfl⟩:=hx;simp only [bulkD] at hw ⊢
  have each:∀ i,(hi:i<elems.length)→∃ x,dom x∧msr x≤bulkD elems[i].1∧(a.add (i * k)).spot=none∧a.block<w.heap.size∧RvC (old w) w (enc x) a.block (a.off+i * k):=by
   intro i hi';have hi:i<len:=by omega
   have h1:=hel i hi;rw [hc] at h1;rw [ZqC hi',Option.bind_eq_some_iff] at h1;obtain ⟨cs',hcs,hd⟩:=h1;have hmem:bulkD elems[i].1≤bulkA (elems.map (·.1)):=Zjv (List.mem_map.2 ⟨elems[i],ZpW _,rfl⟩);obtain ⟨x,hx,hmx,hrx⟩:=h H en w base spare held n' cs' elems[i].1 elems[i].2 hd (by omega);obtain ⟨hblk,hcl,hcell⟩:=World.cells?_some hcs
   have hsp:∀ j,j<k→((a.add (i * k)).add j)=⟨a.block,a.off+i * k+j,none⟩:=by
    intro j hj;have h2:=hcell j hj;rw [ZqC (by omega)] at h2;have h3:=World.cell?_spot h2;unfold Addr.add at h3 ⊢;obtain ⟨ab,ao,ax⟩:=a;split at h3<;>rename_i hj0<;>split at h3<;>rename_i hi0<;>simp_all
   have h2:=hcell 0 hk;rw [ZqC (by omega)] at h2;have h3:=World.cell?_spot h2;refine ⟨x,hx,hmx,by simpa [Addr.add] using h3,?_,Zfo hrx fun j hj=>?_⟩
   ·have:=World.block_lt_of_cell? w _ h2
    rw [hsp 0 hk] at this;exact this
   ·rw [← hsp j (by omega)]; exact hcell j (by omega)
  obtain ⟨l,hn,hd,hs,hrl⟩:=ZhI (S:=old w) (w:=w) (r:=a.block) (dom:=dom) (msr:=msr) hl (elems.map fun x=>bulkD x.1) a.off fun i hi=>by
   obtain ⟨x,h1,h1',_,_,h2⟩:=each i (by simpa using hi);exact ⟨x,h1,by simpa using h1',h2⟩
  have hle:elems.length=len:=by omega
  have hn':l.length=len:=by rw [hn,List.length_map,hle]
  refine ⟨l,hd,?_,_,[],rfl,⟨some a,cap,by rw [hn'],⟨by omega,by simp⟩,fun hp=>?_⟩,rfl⟩
  ·have e1:bulkA (elems.map (·.1))=(elems.map fun x=>bulkD x.1).sum:=by rw [Zju,List.map_map]; rfl
   show (l.map msr).sum+1≤_;omega
  ·obtain ⟨x,_,_,h3,h4,_⟩:=each 0 (by omega);have e0:a.add (0 * k)=a:=by simp [Addr.add]
   rw [e0] at h3;obtain ⟨ab,ao,ax⟩:=a;exact ⟨ab,ao,by simp at h3; rw [h3],h4,hrl⟩
theorem Zd5 {H:Type} {en:TypeId × Value→H} {w:World} {base:Nat} {spare:Nat→Bool} {held:Bool} {v:Value} {d:DataW H} {ps:List MemPlace} (h:RdN n P t enc dom msr)
 (ht:DataW.Trod en P w base spare held t v d ps) (hw:bulkD d≤n):∃ a,dom a∧msr a≤bulkD d∧RvL (old w) w (enc a) v.cells.toList:=by
 obtain ⟨fuel,hf⟩:=ht;exact h H en w base spare held fuel _ d ps hf hw
end
end Go.PV
end
section
open List renaming map_cons→Zp3
open Nat renaming le_refl→ZpY,lt_succ_self→ZqK
set_option maxRecDepth 20000
namespace Go.PV.YtglpmlbbaedbiaaGreat
open Go Go.Proofs Go.ChangeShapes Go.WideShapes Go.RowKit
mutual
def Ex.wt:Ex→Nat
 | .mk _ n ks=>4+n.size+exsWt ks
def exsWt:List Ex→Nat
 | []=>0
 | k::ks=>k.wt+exsWt ks
end
theorem Zio:∀ l:List Ex,exsWt l=(l.map Ex.wt).sum
 | []=>rfl
 | k::l=>by rw [exsWt,Zio l]; rfl
mutual
theorem Ex.sz_wt:∀ e:Ex,e.sz≤e.wt
 | .mk _ n ks=>by have:=ZlP ks; rw [Ex.sz,Ex.wt]; omega
theorem ZlP:∀ l:List Ex,exsSz l≤exsWt l
 | []=>ZpY _
 | k::l=>by have:=Ex.sz_wt k; have:=ZlP l; rw [exsSz,exsWt]; omega
end
mutual
def Pa.wt:Pa→Nat
 | .mk _ n ks=>4+n.size+pasWt ks
def pasWt:List Pa→Nat
 | []=>0
 | k::ks=>k.wt+pasWt ks
end
theorem ZdF:∀ l:List Pa,pasWt l=(l.map Pa.wt).sum
 | []=>rfl
 | k::l=>by rw [pasWt,ZdF l]; rfl
mutual
theorem Pa.sz_wt:∀ e:Pa,e.sz≤e.wt
 | .mk _ n ks=>by have:=Zf0 ks; rw [Pa.sz,Pa.wt]; omega
theorem Zf0:∀ l:List Pa,pasSz l≤pasWt l
 | []=>ZpY _
 | k::l=>by have:=Pa.sz_wt k; have:=Zf0 l; rw [pasSz,pasWt]; omega
end
mutual
theorem Pa.names_wt:∀ (p:Pa),∀ s∈p.names,s.size≤p.wt
 | .mk c n ks,s,h=>by
   rw [Pa.names] at h;rw [Pa.wt];split at h
   ·have:=Zdq ks s h; omega
   ·simp at h; subst h; omega
theorem Zdq:∀ (l:List Pa),∀ s∈ZY l,s.size≤pasWt l
 | [],s,h=>by simp [ZY] at h
 | p::l,s,h=>by
   rw [ZY] at h;rw [pasWt];rcases List.mem_append.1 h with h | h
   ·have:=Pa.names_wt p s h; omega
   ·have:=Zdq l s h; omega
end
def clWt (c:Cl):Nat:=pasWt c.pats+c.body.wt+2
def fuWt (f:Fu):Nat:=f.name.size+(f.cls.map clWt).sum+4
theorem Zno {α:Type} {f g:α→Nat} (h:∀ x,f x≤g x):∀ l:List α,(l.map f).sum≤(l.map g).sum
 | []=>ZpY _
 | x::l=>by have:=Zno h l; have:=h x; simp only [Zp3,List.sum_cons]; omega
theorem Zn9 (f:Fu):fuSz f≤fuWt f:=by
 have:clsSz f.cls≤(f.cls.map clWt).sum:=Zno (fun c=>by have:=Zf0 c.pats; have:=c.body.sz_wt; unfold clSz clWt; omega) f.cls
 unfold fuSz fuWt; omega
theorem ZaH {n:Nat} {P:Program} {α:Type} {t e:TypeId} {enc:α→List VV} {dom:α→Prop} {msr:α→Nat} {k:Nat} (ht:P.underlying t=some (.slice e)) (hc:P.cellsOf e=k) (hk:0<k) (h:∀ m,m<n→RdN m P e enc dom msr) (hl:∀ a,(enc a).length=k) :
 RdN n P t (fun l=>[encS enc l]) (fun l=>∀ a∈l,dom a) (fun l=>(l.map msr).sum+1):=by
 cases n with
 | zero=>exact Zav
 | succ n=>exact ZoU ht hc hk (h n (ZqK _)) hl
theorem rdEx:∀ n m,m≤n→RdN m Tryz.prog 28 exE (fun _=>True) Ex.wt:=by
 intro n
 induction n with
 | zero=>intro m hm; obtain rfl:m=0:=by omega
         exact Zav
 | succ n ih =>
   intro m hm;cases m with
   | zero=>exact Zav
   | succ m =>
     have hs:RdN m Tryz.prog 26 (fun l:List Ex=>[encS exE l]) (fun l=>∀ a∈l,True) (fun l=>(l.map Ex.wt).sum+1):=ZaH Tryz.underlying26 (by kernel_rfl) (by omega) (fun i hi=>ih i (by omega)) Zgc;refine ZeA (fun p:Int × ByteArray × List Ex × Unit=>Ex.mk p.1 p.2.1 p.2.2.1) (ZaG (tot:=3) Tryz.underlying28 (by kernel_rfl) (Xs (k:=1) rfl (by kernel_rfl) (ZhH Tryz.underlying3) (Xs (k:=1) rfl (by kernel_rfl) (ZcW Tryz.underlying9) (Xs (k:=1) rfl (by kernel_rfl) hs (Zbr 3))))) ?_ (fun _ _=>trivial) ?_
     ·intro p; rw [Jt]; rfl
     ·intro p; rw [Ex.wt,Zio]; omega
theorem rdPa:∀ n m,m≤n→RdN m Tryz.prog 126 paE (fun _=>True) Pa.wt:=by
 intro n
 induction n with
 | zero=>intro m hm; obtain rfl:m=0:=by omega
         exact Zav
 | succ n ih =>
   intro m hm;cases m with
   | zero=>exact Zav
   | succ m =>
     have hs:RdN m Tryz.prog 122 (fun l:List Pa=>[encS paE l]) (fun l=>∀ a∈l,True) (fun l=>(l.map Pa.wt).sum+1):=ZaH Tryz.underlying122 (by kernel_rfl) (by omega) (fun i hi=>ih i (by omega)) Zkv;refine ZeA (fun p:Bool × ByteArray × List Pa × Unit=>Pa.mk p.1 p.2.1 p.2.2.1) (ZaG (tot:=3) Tryz.underlying126 (by kernel_rfl) (Xs (k:=1) rfl (by kernel_rfl) (rdn_bool Tryz.underlying4) (Xs (k:=1) rfl (by kernel_rfl) (ZcW Tryz.underlying9) (Xs (k:=1) rfl (by kernel_rfl) hs (Zbr 3))))) ?_ (fun _ _=>trivial) ?_
     ·intro p; rw [ZkZ]; rfl
     ·intro p; rw [Pa.wt,ZdF]; omega
theorem rdCl (n:Nat):RdN n Tryz.prog 124 clE (fun _=>True) clWt:=by
 cases n with
 | zero=>exact Zav
 | succ n =>
   have hs:RdN n Tryz.prog 122 (fun l:List Pa=>[encS paE l]) (fun l=>∀ a∈l,True) (fun l=>(l.map Pa.wt).sum+1):=ZaH Tryz.underlying122 (by kernel_rfl) (by omega) (fun i hi=>rdPa i i (ZpY _)) Zkv;refine ZeA (fun p:List Pa × Ex × Unit=>(⟨p.1,p.2.1⟩:Cl)) (ZaG (tot:=4) Tryz.underlying124 (by kernel_rfl) (Xs (k:=1) rfl (by kernel_rfl) hs (Xs (k:=3) rfl (by kernel_rfl) (rdEx n n (ZpY _)) (Zbr 4)))) ?_ (fun _ _=>trivial) ?_
   ·intro p; show clE _=_++(exE _++_); rw [Jt]; rfl
   ·intro p; show pasWt p.1+p.2.1.wt+2≤_; rw [ZdF]; omega
theorem rdFu (n:Nat):RdN n Tryz.prog 67 fuE (fun _=>True) fuWt:=by
 cases n with
 | zero=>exact Zav
 | succ n =>
   have hs:RdN n Tryz.prog 65 (fun l:List Cl=>[encS clE l]) (fun l=>∀ a∈l,True) (fun l=>(l.map clWt).sum+1):=ZaH (k:=4) Tryz.underlying65 (by kernel_rfl) (by omega) (fun i hi=>rdCl i) (fun _=>rfl);refine ZeA (fun p:ByteArray × Int × List Cl × Unit=>(⟨p.1,p.2.1,p.2.2.1⟩:Fu)) (ZaG (tot:=3) Tryz.underlying67 (by kernel_rfl) (Xs (k:=1) rfl (by kernel_rfl) (ZcW Tryz.underlying9) (Xs (k:=1) rfl (by kernel_rfl) (ZhH Tryz.underlying3) (Xs (k:=1) rfl (by kernel_rfl) hs (Zbr 3))))) ?_ (fun _ _=>trivial) ?_
   ·intro p; rfl
   ·intro p; show p.1.size+(p.2.2.1.map clWt).sum+4≤_; omega
end Go.PV.YtglpmlbbaedbiaaGreat
end
section
set_option maxRecDepth 20000
namespace Go.PV
open Go.ChangeShapes Go.WideShapes Go.RowKit
theorem ZcG {P:Program} {w:World} {r:Reach} {base:Nat} {v:Value} {t:TypeId} {fs:Array Field} (ht:P.underlying t=some (.struct fs)) (h:Value.okWide P w r base t v):∃ vs:Array Value,v=.agg vs∧v.cells.toList=vs.toList:=by
 obtain ⟨cs,rfl,_⟩:=okWide_struct ht h;exact ⟨cs,rfl,rfl⟩
theorem rv_one {S:Nat→Prop} {w:World} {x:VV} {v:Value} (h:RvL S w [x] v.cells.toList) (hv:v.cells.toList=[v]):Rv S w x v:=by
 obtain ⟨u,us,e,hr,_⟩:=h;rw [hv] at e;simp only [List.cons.injEq] at e;rw [e.1]; exact hr
theorem Znp {S:Nat→Prop} {w:World} {xs:List VV} {v:Value} (h:RvL S w xs v.cells.toList) (hv:∃ vs:Array Value,v=.agg vs∧v.cells.toList=vs.toList):Rv S w (.agg xs) v:=by
 obtain ⟨vs,e,hc⟩:=hv;exact ⟨vs,e,by rw [← hc]; exact h⟩
end Go.PV
namespace Go.Proofs.YtglpmlbbaedbiaaGreat
open Go.PV
mutual
theorem ZhJ {H:Type}:∀ d:DataW H,Rows.uptoBulk d=bulkD d
 | .lit l=>by cases l<;>rfl
 | .nil=>rfl
 | .ptr d=>by rw [Rows.uptoBulk,bulkD,ZhJ d]
 | .slice elems spare=>by rw [Rows.uptoBulk,bulkD,ZbD elems,ZbD spare]
 | .agg parts=>by rw [Rows.uptoBulk,bulkD,ZbD parts]
 | .iface _ d=>by rw [Rows.uptoBulk,bulkD,ZhJ d]
 | .map entries=>by rw [Rows.uptoBulk,bulkD,Zdk entries]
 | .held _=>rfl
theorem ZbD {H:Type}:∀ l:List (DataW H),Rows.uptoBulkAll l=bulkA l
 | []=>rfl
 | d::r=>by rw [Rows.uptoBulkAll,bulkA,ZhJ d,ZbD r]
theorem Zdk {H:Type}:∀ l:List (Lit × DataW H),Rows.uptoBulkEntries l=bulkE l
 | []=>rfl
 | x::r=>by rw [Rows.uptoBulkEntries,bulkE,Zj5 x,Zdk r]
theorem Zj5 {H:Type}:∀ x:Lit × DataW H,Rows.uptoBulkEntry x=bulkX x
 | (l,d)=>by cases l<;>simp only [Rows.uptoBulkEntry,bulkX,ZhJ d]
end
theorem small_of {H:Type} {l:List (DataW H)} (hk:Rows.uptoSmall H l=true):bulkA l≤1048576:=by
 have h:Rows.uptoBulkAll l≤1048576:=of_decide_eq_true hk
 rwa [ZbD] at h
theorem own:ownKnob Tryz.prog.godebug=none:=by kernel_rfl
theorem laidOut:laidOutB Tryz.prog=true:=by kernel_rfl
end Go.Proofs.YtglpmlbbaedbiaaGreat
end
section
set_option maxRecDepth 20000
set_option maxHeartbeats 4000000
namespace Go.PV.YtglpmlbbaedbiaaGreat
open Go Go.Proofs
theorem bd_one (a:Bd):(bdE a).all VV.one=true:=rfl
theorem WI {α:Type} (p:α→Bool) (l:List α):(idxF p l = -1∧∀ x∈l,p x=false)∨∃ i,∃ h:i<l.length,idxF p l=i∧p l[i]=true∧∀ j (h:j<i),p l[j]=false:=by
 unfold idxF;cases h:l.findIdx? p with
 | none=>exact .inl ⟨rfl,by simpa using h⟩
 | some i =>
   rw [List.findIdx?_eq_some_iff_getElem] at h;obtain ⟨hi,hp,hj⟩:=h;exact .inr ⟨i,hi,rfl,hp,fun j h=>by simpa using hj j h⟩
end Go.PV.YtglpmlbbaedbiaaGreat
end
section
open Bool renaming false_eq_true→ZqP
open Go.PV.Hold renaming mk→ZpM
open Go.PV.PureF renaming forget→Zp4,use→ZpQ
open Go.PV.SubH renaming refl→ZpN
open Int renaming reduceNeg→ZqG,reduceLE→Zqi
open List renaming map_cons→Zp3,map_nil→Zqa,getD_cons_zero→ZqM,getD_cons_succ→Zqw,getD_nil→Zqx
open Nat renaming reduceEqDiff→ZpI,reduceLT→ZpJ,lt_or_ge→Zqm,succ_ne_self→Zp7
set_option maxRecDepth 20000
set_option maxHeartbeats 4000000
namespace Go.PV.YtglpmlbbaedbiaaGreat
open Go Go.Proofs
abbrev bV8 (n:Int):VV:=.lit (.int .u8 n)
def letN (n:Int):Bool:=decide (97≤n) && decide (n≤122) || decide (65≤n) && decide (n≤90)
def digN (n:Int):Bool:=decide (48≤n) && decide (n≤57)
def badN (n:Int):Bool:=!letN n && !digN n && !decide (n=95) && !decide (n=39) && !decide (n=46)
theorem Zjw (n:Int):PureF Tryz.prog 108 [bV8 n] (boolV (letN n)):=by
 refine Zp4 fun H=>?_
 refine ZE fd108 (by simp) ?_;delta c108 Zq Za Zr Zp Zc;obtain ⟨b,hb⟩:∃ b,b=letN n:=⟨_,rfl⟩
 rw [← hb];unfold letN at hb;replace hb:=ZpM hb
 (repeat' (first | (simp only [↓Zz,ZA,boolV,ZpI,ZpJ,reduceCtorEq,ZN,ZD,undef, *]) | (refine Jk ?_ ?_<;>intro) | (refine YW ?_ ?_<;>intro) | (refine ZG ?_) | (exact ZpN _) | (with_reducible refine And.intro ?_ ?_)))
 all_goals
  rw [hb.out];exact congrArg (fun b=>VE.ret (boolV b)) (by rw [Bool.eq_iff_iff]; simp; omega)
theorem digit_ok (n:Int):PureF Tryz.prog 111 [bV8 n] (boolV (digN n)):=by
 refine Zp4 fun H=>?_
 refine ZE fd111 (by simp) ?_;delta c111 Zq Za Zr Zp Zc;obtain ⟨b,hb⟩:∃ b,b=digN n:=⟨_,rfl⟩
 rw [← hb];unfold digN at hb;replace hb:=ZpM hb
 (repeat' (first | (simp only [↓Zz,ZA,boolV,ZpI,ZpJ,reduceCtorEq,ZN,ZD,undef, *]) | (refine Jk ?_ ?_<;>intro) | (refine ZG ?_) | (exact ZpN _) | (with_reducible refine And.intro ?_ ?_)))
 all_goals
  rw [hb.out];exact congrArg (fun b=>VE.ret (boolV b)) (by rw [Bool.eq_iff_iff]; simp; omega)
theorem bad_ok (n:Int):PureF Tryz.prog 110 [bV8 n] (boolV (badN n)):=by
 have h1:=Zjw n;have h2:=digit_ok n;refine Zp4 fun H=>?_
 refine ZE fd110 (by simp) ?_;delta c110 Zq Za Zo Zr Zp Zc;unfold badN;generalize letN n=x at *
 generalize digN n=y at *
 (repeat' (first | (simp only [↓Zz,ZA,boolV,ZpI,ZpJ,Bool.true_and,reduceCtorEq,ZN,ZD,undef,ZkP,en_111, *]) | (refine Zb0 ?_ ?_<;>intro) | (refine ZG ?_) | (exact ZpN _) | (refine ZpQ (h1) ?_) | (refine ZpQ (h2) ?_)))
theorem idxByte {l:List UInt8} {f:VV} {p:UInt8→Bool} {H:AH} {K:VE→AH→Prop} (hl:l.length≤1099511627776)
 (hf:∀ i (h:i<l.length),FnAt Tryz.prog f [bV8 (l[i].toNat:Int)] (boolV (p l[i])) H) (hK:K (.ret (iV (idxF p l))) H):ZT Tryz.prog 135 [encS (fun c:UInt8=>[bV8 (c.toNat:Int)]) l,f] H K:=by
 refine ZE fd135 (by simp) ?_;delta c135 Zf Za Ze Zq;have hd:∀ i (h:i<l.length),(encC (fun c:UInt8=>[bV8 (c.toNat:Int)]) l).drop i=bV8 (l[i].toNat:Int)::encC (fun c:UInt8=>[bV8 (c.toNat:Int)]) (l.drop (i+1)):=fun i h=>Ze3 (enc:=fun c:UInt8=>bV8 (c.toNat:Int)) h
 (repeat' (first | (simp only [↓Zz,ZA,intV,ZpI,ZpJ,reduceCtorEq,ZD,undef,ZnO, *])))
 refine ZP (fun _ _ _ h=>h) (fun A H'=>H'=H∧A.d=[]∧A.t 0=encS (fun c:UInt8=>[bV8 (c.toNat:Int)]) l∧A.t 1=f∧A.t 7=iV l.length∧∃ i:Nat,i≤l.length∧A.t 8=iV i∧∀ j (h:j<l.length),j<i→p l[j]=false)
  (fun A _=>match A.t 8 with | .lit (.int _ i)=>((l.length:Int)-i).toNat | _=>0) ?_ ?_
 ·exact ⟨rfl,rfl,rfl,rfl,rfl,0,by simp,rfl,by simp⟩
 ·rintro ⟨t,d⟩ H' ⟨rfl,rfl,h0,h1,h7,i,hi,h8,hj⟩;dsimp only at h0 h1 h7 h8;delta b135_1 Zn Zr Za Zc Zk Zb Zq Zm;by_cases hlt:i<l.length
  ·have hil:(i:Int)<(l.length:Int):=by omega
   have hdi:=hd i hlt;clear hd
   (repeat' (first | (simp only [↓Zz,ZA,boolV,ZpI,ZpJ,reduceCtorEq,ldT_5,ZnO, *]) | (refine Yh ?_ ?_<;>intro) | (refine ZG ?_) | (refine hf _ hlt _ ?_) | (with_reducible refine And.intro ?_ ?_)))
   ·rw [← Jo hlt (by assumption) (fun j h=>hj j (by omega) h)];exact hK
   ·rw [ZK (by omega) (by omega)];refine ⟨i+1,by omega,by simp,fun j h h'=>?_⟩;rcases Zqm j i with h2 | h2
    ·exact hj j h h2
    ·obtain rfl:j=i:=by omega
     assumption
   ·rw [ZK (by omega) (by omega)];omega
  ·have hil:¬ (i:Int)<(l.length:Int):=by omega
   (repeat' (first | (simp only [↓Zz,ZA,ZpJ, *]) | (refine ZV rfl (fun _ _ _ h=>h) ?_)))
   delta c135_1 Zq
   (repeat' (first | (simp only [↓Zz,ZA,ZpI,ZpJ,ZqG, *]) | (refine ZG ?_)))
   rw [show (-1:Int)=idxF p l from (Zai fun j h=>hj j h (by omega)).symm];exact hK
abbrev bytV (l:List UInt8):VV:=encS (fun c:UInt8=>[bV8 (c.toNat:Int)]) l
theorem hasByte {l:List UInt8} {f:VV} {p:UInt8→Bool} {H:AH} {K:VE→AH→Prop} (hl:l.length≤1099511627776)
 (hf:∀ i (h:i<l.length),FnAt Tryz.prog f [bV8 (l[i].toNat:Int)] (boolV (p l[i])) H) (hK:K (.ret (boolV (l.any p))) H):ZT Tryz.prog 109 [bytV l,f] H K:=by
 refine ZE fd109 (by simp) ?_;delta c109 Zq Za Zo Zr Zm Zc
 (repeat' (first | (simp only [↓Zz,ZA,ZpI,ZpJ,reduceCtorEq,ZD,undef,en_135, *]) | (refine ZG ?_) | (refine idxByte (p:=p) hl hf ?_)))
 rw [ZlL];exact hK
theorem Zoa {cx:Cx} {next:AF→AH→Prop} {Q:APost} {A:AF} {H:AH} (d:Option Tmp) (t:TypeId) (x i:Operand):vcDo cx ⟨d,.index t x i,none⟩ next Q A H=(dOk cx.N d∧Zbu cx.P t (A.eval x) (A.eval i) H (vcK next Q d A)):=rfl
def nameB (b:ByteArray):Bool:=match b.data.toList with
 | []=>false
 | c::l=>decide (b.size≤40) && (letN (c.toNat:Int) || decide ((c.toNat:Int)=95)) && !(c::l).any fun x=>badN (x.toNat:Int)
theorem Zd6 (b:ByteArray) (hb:b.size≤1099511627776):PureF Tryz.prog 77 [.lit (.string b)] (boolV (nameB b)):=by
 refine Zp4 fun H=>?_
 refine ZE fd77 (by simp) ?_;delta c77 Zq Za Zr Zp Zo Zc;have hl:b.size=b.data.toList.length:=by simp
 have hu1:(Tryz.prog).underlying 9=some .string:=Tryz.underlying9;have hu2:(Tryz.prog).underlying 213=some (.slice 5):=Tryz.underlying213;have hu3:(Tryz.prog).underlying 5=some (.int .u8):=Tryz.underlying5
 have hbad:∀ (H:AH) (K:VE→AH→Prop),K (.ret (boolV (b.data.toList.any fun x=>badN (x.toNat:Int)))) H→ZT Tryz.prog 109 [bytV b.data.toList,.lit (.func (.func 110) #[] #[])] H K:=fun H K hK =>
  hasByte (by omega) (fun i h=>FnAt.lit en_110 (bad_ok _)) hK
 have hcv:VV.slice false b.size (b.data.toList.map fun c=>.lit (.int .u8 (c.toNat:Int)))=bytV b.data.toList:=by
  rw [hl]
  have:∀ l:List UInt8,encC (fun c:UInt8=>[bV8 (c.toNat:Int)]) l=l.map fun c=>.lit (.int .u8 (c.toNat:Int)):=fun l=>by
   induction l with
   | nil=>rfl
   | cons c l ih=>rw [YF,ih]; rfl
  rw [bytV,encS,this]
 cases hd:b.data.toList with
 | nil =>
   have hb0:b={ data:=#[] }:=by
    cases b with
    | mk d=>simp only [ByteArray.mk.injEq]; exact Array.toList_eq_nil_iff.1 hd
   subst hb0;clear hbad hcv hl
   (repeat' (first | (simp only [↓Zz,ZA,↓Xw,boolV,ZpI,ZpJ,reduceCtorEq,ZN,ZD,undef,ZkP, *]) | (refine ZG ?_) | (exact ZpN _) | (with_reducible refine And.intro ?_ ?_)))
   rfl
 | cons c l =>
   have hlet:=Zjw (c.toNat:Int)
   have hconv:∀ (H:AH) (K:VE→AH→Prop),K (.ret (bytV (c::l))) H→Za5 Tryz.prog 9 213 (.lit (.string b)) H K:=fun H K hK=>by
    unfold Za5;refine ⟨_,hu1,?_⟩;rw [hu2];refine ⟨hu3,?_⟩;rw [hcv,hd];exact hK
   rw [hd] at hbad;obtain ⟨r,hr⟩:∃ r,r=nameB b:=⟨_,rfl⟩
   rw [← hr];unfold nameB at hr;rw [hd] at hr;simp only at hr
   have hne:decide (b={ data:=#[] })=false:=by
    rw [decide_eq_false_iff_not]; rintro rfl; simp at hd
   have hi0:b.data.toList[(0:Int).toNat]?=some c:=by rw [hd]; rfl
   generalize letN (c.toNat:Int)=x at *
   generalize (c::l).any (fun x=>badN (x.toNat:Int))=y at *
   replace hr:=ZpM hr;clear hl hd hcv hu2 hu3
   (repeat' (first | (refine hconv _ _ ?_) | (refine hbad _ _ ?_) | (simp only [↓Wq,↓Wg,↓XM,↓XN,↓Xz,↓WV,↓WX,↓Xe,↓Yf,↓Zag,↓JE,↓Zgv,↓Zcf,↓Zcg,Zij,↓Yi,↓Wa,↓Yu,↓Yr,↓Ys,↓Yt,↓YS,↓WZ,↓ZC,↓Xb,↓YH,↓Jh,↓Zah,↓Zbn,↓Wr,↓s_un,↓ZoL,↓Jn,↓XP,↓XF,↓Zd0,↓JS,↓WA,↓Ji,↓Xw,intV,boolV,Zp3,Zqa,ZqM,Zqw,Zqx,ite_true,ite_false,ZpI,ZpJ,true_and,ZqP,Zp7,decide_true,decide_false,reduceCtorEq,ZN,ZD,eq_self,n_lenT,undef,Zqi,Zoa,Zbu,ZkP,en_109, *]) | (refine YW ?_ ?_<;>intro) | (refine Zb0 ?_ ?_<;>intro) | (refine Yh ?_ ?_<;>intro) | (refine ZG ?_) | (exact ZpN _) | (refine ZpQ (hlet) ?_) | (with_reducible refine And.intro ?_ ?_)))
   all_goals
    rw [hr.out];exact congrArg (fun b=>VE.ret (boolV b)) (by clear hlet hconv hbad hi0 hr; cases x<;>cases y<;>simp_all<;>omega)
end Go.PV.YtglpmlbbaedbiaaGreat
end
section
open Go.PV.AH renaming set_none→ZpO,ne_of→ZpK,set_same→ZpP
open Go.PV.GhL renaming cons→ZpZ
open Go.PV.Hold renaming mk→ZpM
open Go.PV.PureF renaming forget→Zp4,use→ZpQ
open Go.PV.SubH renaming refl→ZpN,of_set→ZpS,none→Zqp
open Int renaming reduceNeg→ZqG
open List renaming drop→ZpL,drop_eq_getElem_cons→Zql,take_append_drop→ZqV,length_take→ZqI,getElem_mem→ZpW,drop_eq_nil_of_le→Zp9
open Nat renaming reduceEqDiff→ZpI,reduceLT→ZpJ,lt_or_ge→Zqm,reduceAdd→ZpT,reduceMul→Zqu
open Option renaming map_none→Zqz,map_some→Zp6
set_option maxRecDepth 20000
set_option maxHeartbeats 4000000
namespace Go.PV.YtglpmlbbaedbiaaGreat
open Go Go.Proofs
abbrev coV (c:Co):VV:=.agg (coE c)
theorem idxCo {l:List Co} {f:VV} {p:Co→Bool} {H:AH} {K:VE→AH→Prop} (hl:l.length≤1099511627776)
 (hf:∀ i (h:i<l.length),FnAt Tryz.prog f [coV l[i]] (boolV (p l[i])) H) (hK:K (.ret (iV (idxF p l))) H):ZT Tryz.prog 112 [cosV l,f] H K:=by
 refine ZE fd112 (by simp) ?_;delta c112 Zf Za Ze Zq
 (repeat' (first | (simp only [↓Zz,ZA,intV,ZpI,ZpJ,reduceCtorEq,ZD,undef,Za7, *])))
 refine ZP (fun _ _ _ h=>h) (fun A H'=>H'=H∧A.d=[]∧A.t 0=cosV l∧A.t 1=f∧A.t 7=iV l.length∧∃ i:Nat,i≤l.length∧A.t 8=iV i∧∀ j (h:j<l.length),j<i→p l[j]=false)
  (fun A _=>match A.t 8 with | .lit (.int _ i)=>((l.length:Int)-i).toNat | _=>0) ?_ ?_
 ·exact ⟨rfl,rfl,rfl,rfl,rfl,0,by simp,rfl,by simp⟩
 ·rintro ⟨t,d⟩ H' ⟨rfl,rfl,h0,h1,h7,i,hi,h8,hj⟩;dsimp only at h0 h1 h7 h8;delta b112_1 Zn Zr Za Zc Zk Zb Zq Zm;by_cases hlt:i<l.length
  ·have hil:(i:Int)<(l.length:Int):=by omega
   have hdi:=Zaj hlt
   (repeat' (first | (simp only [↓Zz,ZA,boolV,ZpI,ZpJ,reduceCtorEq,Zm6,Za7, *]) | (refine Yh ?_ ?_<;>intro) | (refine ZG ?_) | (refine hf _ hlt _ ?_) | (with_reducible refine And.intro ?_ ?_)))
   ·rw [← Jo hlt (by assumption) (fun j h=>hj j (by omega) h)];exact hK
   ·rw [ZK (by omega) (by omega)];refine ⟨i+1,by omega,by simp,fun j h h'=>?_⟩;rcases Zqm j i with h2 | h2
    ·exact hj j h h2
    ·obtain rfl:j=i:=by omega
     assumption
   ·rw [ZK (by omega) (by omega)];omega
  ·have hil:¬ (i:Int)<(l.length:Int):=by omega
   (repeat' (first | (simp only [↓Zz,ZA,ZpJ, *]) | (refine ZV rfl (fun _ _ _ h=>h) ?_)))
   delta c112_1 Zq
   (repeat' (first | (simp only [↓Zz,ZA,ZpI,ZpJ,ZqG, *]) | (refine ZG ?_)))
   rw [show (-1:Int)=idxF p l from (Zai fun j h=>hj j h (by omega)).symm];exact hK
theorem eq1Co (b:Co) {name:ByteArray} {e:TypeId} {r sp:Nat} {H:AH} (hr:H r=some (.cells e [sV name] sp)):FnAt Tryz.prog (.func (.func 113) [] [ptrV r 0]) [coV b] (boolV (decide (b.name=name))) H:=by
 refine FnAt.cap en_113 fun K hK=>?_
 refine ReadF.use (x:=boolV (decide (b.name=name))) ?_ hK;refine ZE fd113 (by simp) ?_;delta c113 Zj Zq Zd Zb Zn Zc
 (repeat' (first | (simp only [↓Zz,ZA,↓Xw,ptrV,boolV,ZpI,ZpJ,ZD,ZpL,undef,Zih,ZW, *]) | (refine ZG ?_) | (refine ZB fun zr zh=>?_; have zg:=zh; (try simp only [ZpO] at zg); (try have zn_hr:=ZpK hr zh); (try have zn_hr:=ZpK hr zg.2); (try have zn_hr:=ZpK hr zg.2.2)) | (exact ZpN _) | (refine ZpS ?_ ?_)))
def atCo (l:List Co) (n:ByteArray):Int:=idxF (fun c=>decide (c.name=n)) l
theorem Zk0 (l:List Co) (n:ByteArray) (hl:l.length≤1099511627776):PureF Tryz.prog 78 [cosV l,sV n] (iV (atCo l n)):=by
 refine Zp4 fun H=>?_
 refine ZE fd78 (by simp) ?_;delta c78 Zj Zf Za Zq Zr Zo Zc;unfold atCo
 (repeat' (first | (simp only [↓Zz,ZA,ptrV,ZpI,ZpJ,reduceCtorEq,ZD,undef,en_112, *]) | (refine ZG ?_) | (refine ZB fun zr zh=>?_; have zg:=zh; (try simp only [ZpO] at zg)) | (exact ZpN _) | (refine ZpS ?_ ?_) | (refine idxCo (p:=fun c=>decide (c.name=n)) hl (fun i h=>eq1Co l[i] (ZpP _ _ _)) ?_)))
theorem idxFu {l:List Fu} {f:VV} {p:Fu→Bool} {H:AH} {K:VE→AH→Prop} (hl:l.length≤1099511627776)
 (hf:∀ i (h:i<l.length),FnAt Tryz.prog f [fuV l[i]] (boolV (p l[i])) H) (hK:K (.ret (iV (idxF p l))) H):ZT Tryz.prog 114 [fusV l,f] H K:=by
 refine ZE fd114 (by simp) ?_;delta c114 Zf Za Ze Zq
 (repeat' (first | (simp only [↓Zz,ZA,intV,ZpI,ZpJ,reduceCtorEq,ZD,undef,Zbi, *])))
 refine ZP (fun _ _ _ h=>h) (fun A H'=>H'=H∧A.d=[]∧A.t 0=fusV l∧A.t 1=f∧A.t 7=iV l.length∧∃ i:Nat,i≤l.length∧A.t 8=iV i∧∀ j (h:j<l.length),j<i→p l[j]=false)
  (fun A _=>match A.t 8 with | .lit (.int _ i)=>((l.length:Int)-i).toNat | _=>0) ?_ ?_
 ·exact ⟨rfl,rfl,rfl,rfl,rfl,0,by simp,rfl,by simp⟩
 ·rintro ⟨t,d⟩ H' ⟨rfl,rfl,h0,h1,h7,i,hi,h8,hj⟩;dsimp only at h0 h1 h7 h8;delta b114_1 Zn Zr Za Zc Zk Zb Zq Zm;by_cases hlt:i<l.length
  ·have hil:(i:Int)<(l.length:Int):=by omega
   have hdi:=Wy hlt
   (repeat' (first | (simp only [↓Zz,ZA,boolV,ZpI,ZpJ,reduceCtorEq,Zg8,Zbi, *]) | (refine Yh ?_ ?_<;>intro) | (refine ZG ?_) | (refine hf _ hlt _ ?_) | (with_reducible refine And.intro ?_ ?_)))
   ·rw [← Jo hlt (by assumption) (fun j h=>hj j (by omega) h)];exact hK
   ·rw [ZK (by omega) (by omega)];refine ⟨i+1,by omega,by simp,fun j h h'=>?_⟩;rcases Zqm j i with h2 | h2
    ·exact hj j h h2
    ·obtain rfl:j=i:=by omega
     assumption
   ·rw [ZK (by omega) (by omega)];omega
  ·have hil:¬ (i:Int)<(l.length:Int):=by omega
   (repeat' (first | (simp only [↓Zz,ZA,ZpJ, *]) | (refine ZV rfl (fun _ _ _ h=>h) ?_)))
   delta c114_1 Zq
   (repeat' (first | (simp only [↓Zz,ZA,ZpI,ZpJ,ZqG, *]) | (refine ZG ?_)))
   rw [show (-1:Int)=idxF p l from (Zai fun j h=>hj j h (by omega)).symm];exact hK
theorem eq1Fu (b:Fu) {name:ByteArray} {e:TypeId} {r sp:Nat} {H:AH} (hr:H r=some (.cells e [sV name] sp)):FnAt Tryz.prog (.func (.func 115) [] [ptrV r 0]) [fuV b] (boolV (decide (b.name=name))) H:=by
 refine FnAt.cap en_115 fun K hK=>?_
 refine ReadF.use (x:=boolV (decide (b.name=name))) ?_ hK;refine ZE fd115 (by simp) ?_;delta c115 Zj Zq Zd Zb Zn Zc
 (repeat' (first | (simp only [↓Zz,ZA,↓Xw,ptrV,boolV,ZpI,ZpJ,ZD,ZpL,undef,Zig,ZW, *]) | (refine ZG ?_) | (refine ZB fun zr zh=>?_; have zg:=zh; (try simp only [ZpO] at zg); (try have zn_hr:=ZpK hr zh); (try have zn_hr:=ZpK hr zg.2); (try have zn_hr:=ZpK hr zg.2.2)) | (exact ZpN _) | (refine ZpS ?_ ?_)))
def atFu (l:List Fu) (n:ByteArray):Int:=idxF (fun c=>decide (c.name=n)) l
theorem findFu (l:List Fu) (n:ByteArray) (hl:l.length≤1099511627776):PureF Tryz.prog 79 [fusV l,sV n] (iV (atFu l n)):=by
 refine Zp4 fun H=>?_
 refine ZE fd79 (by simp) ?_;delta c79 Zj Zf Za Zq Zr Zo Zc;unfold atFu
 (repeat' (first | (simp only [↓Zz,ZA,ptrV,ZpI,ZpJ,reduceCtorEq,ZD,undef,en_114, *]) | (refine ZG ?_) | (refine ZB fun zr zh=>?_; have zg:=zh; (try simp only [ZpO] at zg)) | (exact ZpN _) | (refine ZpS ?_ ?_) | (refine idxFu (p:=fun c=>decide (c.name=n)) hl (fun i h=>eq1Fu l[i] (ZpP _ _ _)) ?_)))
def ZbE (all:List Co):List Co→Nat→Int
 | [],_=>0
 | c::l,i=>if nameB c.name=true then (if c.arity<0∨10<c.arity then 4 else if 0≤atCo (all.take i) c.name then 10 else ZbE all l (i+1)) else 411
theorem Zfp {all l:List Co} {i k:Nat} (h:i<l.length):ZbE all (l.drop i) k=if nameB l[i].name=true then (if l[i].arity<0∨10<l[i].arity then 4 else if 0≤atCo (all.take k) l[i].name then 10 else ZbE all (l.drop (i+1)) (k+1)) else 411:=by rw [Zql h,ZbE]
def Zak (l:List Co):Int:=if 100<l.length then 5 else ZbE l l 0
theorem takeCo {l:List Co} {n:ByteArray} {i:Nat} {H:AH} {K:VE→AH→Prop} (hi:i≤l.length) (hl:l.length≤1099511627776) (hK:K (.ret (iV (atCo (l.take i) n))) H):ZT Tryz.prog 78 [.slice false i (encC coE l),sV n] H K:=by
 have e:encC coE l=encC coE (l.take i)++encC coE (l.drop i):=by rw [← Yl,ZqV]
 rw [e];refine Yy (ZpZ (GhV.trunc _ _ _ _ _) (GhL.refl _ _)) ?_;have el:(l.take i).length=i:=by rw [ZqI]; omega
 rw [show VV.slice false i (encC coE (l.take i))=cosV (l.take i) from by rw [cosV,encS,el]];exact (Zk0 (l.take i) n (by omega)).use hK
theorem Zj6 (l:List Co) (hl:l.length≤1099511627776) (hn:∀ c∈l,c.name.size≤1099511627776):PureF Tryz.prog 76 [cosV l] (iV (Zak l)):=by
 have hna:∀ i (h:i<l.length),PureF Tryz.prog 77 [sV l[i].name] (boolV (nameB l[i].name)):=fun i h=>Zd6 _ (hn _ (ZpW h))
 clear hn;refine Zp4 fun H=>?_
 refine ZE fd76 (by simp) ?_;delta c76 Zf Za Ze Zm Zr Zq;obtain ⟨R,hR⟩:∃ R,R=Zak l:=⟨_,rfl⟩
 rw [← hR];unfold Zak at hR;by_cases h100:100<l.length
 ·have h1:(100:Int)<(l.length:Int):=by omega
  rw [if_pos h100] at hR;rw [hR];clear hR
  (repeat' (first | (simp only [↓Zz,ZA,intV,ZpI,ZpJ,reduceCtorEq,ZD,undef,Za7, *]) | (refine ZG ?_) | (exact ZpN _)))
 ·have h1:¬ (100:Int)<(l.length:Int):=by omega
  rw [if_neg h100] at hR;replace hR:=ZpM hR
  (repeat' (first | (simp only [↓Zz,ZA,intV,ZpI,ZpJ,reduceCtorEq,ZD,undef,Za7, *])))
  refine ZP (fun _ _ _ h=>h) (fun A H'=>SubH H H'∧A.d=[]∧A.t 0=cosV l∧A.t 8=cosV l∧A.t 9=iV l.length∧∃ i:Nat,i≤l.length∧A.t 10=iV i∧R=ZbE l (l.drop i) i)
   (fun A _=>match A.t 10 with | .lit (.int _ i)=>((l.length:Int)-i).toNat | _=>0) ?_ ?_
  ·exact ⟨ZpN _,rfl,(by simp only [ZC,ZpI,if_false, *]<;>rfl),(by simp only [ZC,ZpI,if_true,if_false, *]<;>rfl),(by simp only [ZC,ZpI,if_true,if_false, *]<;>rfl),0,by omega,(by simp only [ZC,ZpI,if_true,if_false, *]<;>rfl),hR.out⟩
  ·clear hR h1;rintro ⟨t,d⟩ H' ⟨hs,rfl,h0,h8,h9,i,hi,h10,hR⟩;dsimp only at h0 h8 h9 h10;delta b76_1 Zn Zr Za Zk Zb Zi Zc Zg Zd Zo Zq Zf Zm Zp;by_cases hlt:i<l.length
   ·have hil:(i:Int)<(l.length:Int):=by omega
    have hdi:=Zaj hlt;have hni:=hna i hlt;rw [Zfp hlt] at hR;replace hR:=ZpM hR;clear hna
    (repeat' (first | (simp only [↓Zz,ZA,ptrV,boolV,ZpI,ZpJ,ZpT,Zqu,reduceCtorEq,ZN,ZD,setAt,ZpL,undef,YC,Zqz,Zp6,Xj,idxV,idxOk,Nat.sub_zero,Zih,Zct,Zm6,ZW,ZQ,szT_76,ZfQ,Za7,ZfT,Zbb, *]) | (refine YW ?_ ?_<;>intro) | (refine ZX ?_ ?_<;>intro) | (refine Yh ?_ ?_<;>intro) | (refine ZG ?_) | (refine ZJ mixed (fun _ _ _ _ e h=>⟨e.trans h.1,h.2⟩) _ (ZpN _) ?_) | (refine ZB fun zr zh=>?_; have zg:=zh; (try simp only [ZpO] at zg)) | (refine ZpS ?_ ?_) | (exact Zqp (by assumption) (by assumption)) | (refine ZpQ (hni) ?_) | (refine takeCo (by omega) (by omega) ?_) | (with_reducible refine And.intro ?_ ?_)))
    all_goals try exact fun _=>trivial
    all_goals try exact Nat.zero_le _
    ·rw [hR.out,if_neg (by have h2:(!nameB l[i].name)=true:=by assumption
                           intro h; rw [h] at h2; cases h2)]
    ·rw [hR.out,if_pos (by have h2:(!nameB l[i].name)=false:=by assumption
                           simpa using h2),if_pos (by omega)]
    ·rw [hR.out,if_pos (by have h2:(!nameB l[i].name)=false:=by assumption
                           simpa using h2),if_neg (by omega),if_pos (by assumption)]
    ·rw [ZK (n:=(i:Int)+1) (by omega) (by omega)];refine ⟨i+1,by omega,rfl,?_⟩
     rw [hR.out,if_pos (by have h2:(!nameB l[i].name)=false:=by assumption
                           simpa using h2),if_neg (by omega),if_neg (by assumption)]
    ·rw [ZK (n:=(i:Int)+1) (by omega) (by omega)];omega
    ·rw [hR.out,if_pos (by have h2:(!nameB l[i].name)=false:=by assumption
                           simpa using h2),if_pos (by omega)]
   ·have hil:¬ (i:Int)<(l.length:Int):=by omega
    rw [Zp9 (by omega)] at hR;have hR:R=0:=hR;rw [hR];clear hR
    (repeat' (first | (simp only [↓Zz,ZA,ZpJ, *]) | (refine ZV rfl (fun _ _ _ h=>h) ?_)))
    delta c76_1 Zf
    (repeat' (first | (simp only [↓Zz,ZA,ZpI,ZpJ, *]) | (refine ZG ?_)))
end Go.PV.YtglpmlbbaedbiaaGreat
end
section
open Go.PV.AH renaming set_none→ZpO,ne_of→ZpK,get→ZpU,set_same→ZpP
open Go.PV.Hold renaming mk→ZpM
open Go.PV.SubH renaming new→ZpR
open Int renaming reduceNeg→ZqG,reduceLE→Zqi
open List renaming length_cons→Zqb,length_append→Zqt,drop_eq_getElem_cons→Zql,take_append_drop→ZqV,length_drop→ZqO,drop→ZpL,getElem_mem→ZpW,take_of_length_le→Zqr
open Nat renaming reduceEqDiff→ZpI,reduceLT→ZpJ,reduceAdd→ZpT,reduceLeDiff→Zp1,le_refl→ZpY,lt_succ_self→ZqK,zero_add→Zp2
set_option maxRecDepth 20000
set_option maxHeartbeats 4000000
namespace Go.PV.YtglpmlbbaedbiaaGreat
open Go Go.Proofs
abbrev Pl:=Pa × Int
abbrev plE (x:Pl):List VV:=[bV x.1.con,sV x.1.name,encS paE x.1.kids,iV x.2]
abbrev plV (x:Pl):VV:=.agg (plE x)
mutual
def Pa.all:Pa→Int→List Pl
 | .mk c n ks,a=>(.mk c n ks,a)::XO ks (a+1)
def XO:List Pa→Int→List Pl
 | [],_=>[]
 | p::l,a=>p.all a++XO l a
end
theorem Pa.all_eq (p:Pa) (a:Int):p.all a=(p,a)::XO p.kids (a+1):=by cases p; rw [Pa.all]; rfl
mutual
theorem Pa.all_len:∀ (p:Pa) (a:Int),(p.all a).length=p.sz
 | .mk c n ks,a=>by rw [Pa.all,Zqb,Ze4 ks (a+1),Pa.sz]; omega
theorem Ze4:∀ (l:List Pa) (a:Int),(XO l a).length=pasSz l
 | [],_=>rfl
 | p::l,a=>by rw [XO,Zqt,Pa.all_len p a,Ze4 l a,pasSz]
end
theorem ZeB (a:Int):∀ (l m:List Pa),XO (l++m) a=XO l a++XO m a
 | [],m=>rfl
 | p::l,m=>by rw [List.cons_append,XO,XO,ZeB a l m,List.append_assoc]
theorem idxPaS {l:List Pa} {f:VV} {J:Nat→AH→Prop} {St:AH→Prop} {H:AH} {K:VE→AH→Prop} (hl:l.length≤1099511627776) (hJ:J 0 H)
 (hf:∀ i (h:i<l.length) B,J i B→∀ K':VE→AH→Prop,(∀ B',J (i+1) B'→K' (.ret (boolV false)) B')→(∀ B',St B'→K' (.ret (boolV true)) B')→WJ Tryz.prog none f [paV l[i]] B K')
 (hE:∀ B,J l.length B→K (.ret (iV (-1))) B) (hS:∀ (i:Nat) B,St B→K (.ret (iV i)) B):ZT Tryz.prog 145 [pasV l,f] H K:=by
 refine ZE fd145 (by simp) ?_;delta c145 Zf Za Ze Zq
 (repeat' (first | (simp only [↓Zz,ZA,intV,ZpI,ZpJ,reduceCtorEq,ZD,undef,WK, *])))
 refine ZP (fun _ _ _ h=>h) (fun A H'=>A.d=[]∧A.t 0=pasV l∧A.t 1=f∧A.t 7=iV l.length∧∃ i:Nat,i≤l.length∧A.t 8=iV i∧J i H')
  (fun A _=>match A.t 8 with | .lit (.int _ i)=>((l.length:Int)-i).toNat | _=>0) ?_ ?_
 ·exact ⟨rfl,rfl,rfl,rfl,0,by simp,rfl,hJ⟩
 ·clear hJ;rintro ⟨t,d⟩ H' ⟨rfl,h0,h1,h7,i,hi,h8,hj⟩;dsimp only at h0 h1 h7 h8;delta b145_1 Zn Zr Za Zc Zk Zb Zq Zm;by_cases hlt:i<l.length
  ·have hil:(i:Int)<(l.length:Int):=by omega
   have hdi:=Wx hlt
   (repeat' (first | (simp only [↓Zz,ZA,boolV,ZpI,ZpJ,reduceCtorEq,WB,WK, *]) | (refine ZG ?_) | (refine hf _ hlt _ hj _ (fun B' hB=>?_) (fun B' hB=>?_)) | (with_reducible refine And.intro ?_ ?_)))
   all_goals rw [ZK (n:=(i:Int)+1) (by omega) (by omega)]
   ·exact ⟨i+1,by omega,rfl,hB⟩
   ·omega
  ·have hil:¬ (i:Int)<(l.length:Int):=by omega
   have hie:i=l.length:=by omega
   subst hie
   (repeat' (first | (simp only [↓Zz,ZA,ZpJ, *]) | (refine ZV rfl (fun _ _ _ h=>h) ?_)))
   delta c145_1 Zq
   (repeat' (first | (simp only [↓Zz,ZA,ZpI,ZpJ,ZqG, *]) | (refine ZG ?_)))
theorem hasPaS {l:List Pa} {f:VV} {J:Nat→AH→Prop} {St:AH→Prop} {H:AH} {K:VE→AH→Prop} (hl:l.length≤1099511627776) (hJ:J 0 H)
 (hf:∀ i (h:i<l.length) B,J i B→∀ K':VE→AH→Prop,(∀ B',J (i+1) B'→K' (.ret (boolV false)) B')→(∀ B',St B'→K' (.ret (boolV true)) B')→WJ Tryz.prog none f [paV l[i]] B K')
 (hE:∀ B,J l.length B→K (.ret (boolV false)) B) (hS:∀ B,St B→K (.ret (boolV true)) B):ZT Tryz.prog 143 [pasV l,f] H K:=by
 refine ZE fd143 (by simp) ?_;delta c143 Zq Za Zo Zr Zm Zc;have hz:∀ i:Nat,(0:Int)≤(i:Int):=fun i=>by omega
 (repeat' (first | (simp only [↓Zz,ZA,ZpI,ZpJ,reduceCtorEq,ZD,undef,Zqi,ZqG,en_145, *]) | (refine ZG ?_) | (refine idxPaS (J:=J) (St:=St) hl hJ hf (fun B hB=>?_) (fun i B hB=>?_))))
 ·exact hE _ hB
 ·exact hS _ hB
theorem Znq (p:Pa) {H:AH} {K:VE→AH→Prop} (h:∀ rb,H rb=none→K (.ret (.func (.func 141) [] [ptrV rb 0])) (H.set rb (.cells 74 [bV p.con,sV p.name,encS paE p.kids] 0))):ZT Tryz.prog 136 [paV p] H K:=by
 refine ZE fd136 (by simp) ?_;delta c136 Zj Zq Zr Zc
 (repeat' (first | (simp only [↓Zz,ZA,ptrV,ZpI,ZpJ,ZD,undef, *]) | (refine ZG ?_) | (refine ZB fun zr zh=>?_; have zg:=zh; (try simp only [ZpO] at zg))))
 exact h _ (by assumption)
theorem Zjx {L M:List Pl} {p:Pa} {a:Int} {k i:Nat} (hL:L.drop k=p.all a++M) (h:i<p.kids.length):L.drop (k+1+pasSz (p.kids.take i))=(p.kids[i]).all (a+1)++(XO (p.kids.drop (i+1)) (a+1)++M):=by
 have e:p.kids=p.kids.take i++p.kids[i]::p.kids.drop (i+1):=by rw [← Zql h,ZqV]
 have e2:=congrArg (fun l=>XO l (a+1)) e;simp only [ZeB,XO] at e2;rw [show k+1+pasSz (p.kids.take i)=k+(pasSz (p.kids.take i)+1) from by omega,← List.drop_drop,hL,p.all_eq,List.cons_append,List.drop_succ_cons,e2,List.append_assoc,List.append_assoc,List.drop_left' (Ze4 _ _)]
theorem Zd7 {l:List Pa} {i:Nat} (h:i<l.length):pasSz (l.take (i+1))=pasSz (l.take i)+l[i].sz:=by
 rw [XB h,Zfn,pasSz,pasSz]; omega
section
variable {y:VV} {ry rw sp sp':Nat} {L:List Pl} {Inv Stop:Nat→AH→Prop} {Mut:Nat→Prop}
def keeps (Mut:Nat→Prop) (B B':AH):Prop:=∀ r b,¬ Mut r→B r=some b→B' r=some b
theorem keeps.refl {B:AH}:keeps Mut B B:=fun _ _ _ h=>h
theorem keeps.trans {B B' B'':AH} (h:keeps Mut B B') (h':keeps Mut B' B''):keeps Mut B B'':=fun r b hm hb=>h' r b hm (h r b hm hb)
theorem keeps.sub {B B':AH} (h:SubH B B'):keeps Mut B B':=fun r b _ hb=>h r b hb
theorem walk (hmono:∀ k B B',Inv k B→SubH B B'→Inv k B')
 (hmut:∀ k B r,Inv k B→Mut r→B r ≠ none) (hmy:¬ Mut ry) (hmw:¬ Mut rw)
 (hy:∀ k (h:k<L.length) B,Inv k B→∀ K':VE→AH→Prop,(∀ B',Inv (k+1) B'→keeps Mut B B'→K' (.ret (boolV true)) B')→(∀ B',Stop k B'→K' (.ret (boolV false)) B')→ACall Tryz.prog none y [plV L[k]] B K')
 (hyl:∀ B xs K',WJ Tryz.prog none y xs B K'=ACall Tryz.prog none y xs B K') :
 ∀ (n:Nat) (p:Pa) (a:Int) (k:Nat) (M:List Pl) (B:AH) (K:VE→AH→Prop),p.sz<n→L.drop k=p.all a++M→p.sz≤1099511627776→0≤a→a+p.sz≤2199023255552→Inv k B →
 B ry=some (.cells 245 [y] sp)→B rw=some (.cells 246 [.func (.func 142) [] [ptrV ry 0,ptrV rw 0]] sp') →
 (∀ B',Inv (k+p.sz) B'→keeps Mut B B'→K (.ret (boolV true)) B')→(∀ j B',Stop j B'→K (.ret (boolV false)) B')→ZT Tryz.prog 142 [paV p,iV a,ptrV ry 0,ptrV rw 0] B K:=by
 intro n
 induction n with
 | zero=>intro p a k M B K h; omega
 | succ n ih =>
   intro p a k M B K h0 hL hs ha0 ha hI by_ bw hT hF;refine ZE fd142 (by simp) ?_;delta c142 Zj Zq Zb Zr Za Zp Zc
   have hk:k<L.length:=by
    have:=congrArg List.length hL
    rw [ZqO,Zqt,p.all_len] at this
    have:=p.sz_pos
    omega
   have hLk:L[k]=(p,a):=by
    rw [Zql hk,p.all_eq] at hL;exact (List.cons.inj hL).1
   have hyk:=hy k hk;rw [hLk] at hyk;clear hLk hk;replace hT:=ZpM hT;replace hF:=ZpM hF;replace hL:=ZpM hL
   (repeat' (first | (simp only [↓Zz,ZA,ptrV,ZpI,ZpJ,ZpT,Zp1,ZD,ZM,fillV,setAt,ZpL,undef,ZM,ZnQ,WB,ZQ,ZnR, *]) | (refine ZB fun zr zh=>?_; have zg:=zh; (try simp only [ZpO] at zg); (try have zn_by_:=ZpK by_ zh); (try have zn_by_:=ZpK by_ zg.2); (try have zn_by_:=ZpK by_ zg.2.2); (try have zn_bw:=ZpK bw zh); (try have zn_bw:=ZpK bw zg.2); (try have zn_bw:=ZpK bw zg.2.2))))
   rename_i r4 n4 n4' zz1 zz2;have m4:¬ Mut r4:=fun h=>hmut k B r4 hI h n4
   have m5:¬ Mut zr:=fun h=>hmut k B zr hI h zg.2
   have hI1:Inv k ((B.set r4 (.cells 74 [bV p.con,sV p.name,encS paE p.kids] 0)).set zr (.cells 3 [iV a] 0)):=hmono _ _ _ hI ((ZpR n4).of_set zg.2);have hkB:keeps Mut B ((B.set r4 (.cells 74 [bV p.con,sV p.name,encS paE p.kids] 0)).set zr (.cells 3 [iV a] 0)):=keeps.sub ((ZpR n4).of_set zg.2);have x4:((B.set r4 (.cells 74 [bV p.con,sV p.name,encS paE p.kids] 0)).set zr (.cells 3 [iV a] 0)) r4=some (.cells 74 [bV p.con,sV p.name,encS paE p.kids] 0):=(by simp only [ZpU, *,if_true,if_false]<;>rfl)
   have x5:((B.set r4 (.cells 74 [bV p.con,sV p.name,encS paE p.kids] 0)).set zr (.cells 3 [iV a] 0)) zr=some (.cells 3 [iV a] 0):=ZpP _ _ _;show ACall Tryz.prog none y _ ((B.set r4 (.cells 74 [bV p.con,sV p.name,encS paE p.kids] 0)).set zr (.cells 3 [iV a] 0)) _;generalize (B.set r4 (.cells 74 [bV p.con,sV p.name,encS paE p.kids] 0)).set zr (.cells 3 [iV a] 0)=B1 at *
   refine hyk B1 hI1 _ (fun B' hB hkp=>?_) (fun B' hB=>?_)
   ·have q4:=hkp _ _ m4 x4;have q5:=hkp _ _ m5 x5;have qy:=hkp _ _ hmy (hkB _ _ hmy by_);have qw:=hkp _ _ hmw (hkB _ _ hmw bw);have hkk:=hkB.trans hkp
    have hw:∀ (K':VE→AH→Prop),(∀ B'',Inv (k+p.sz) B''→keeps Mut B' B''→K' (.ret (boolV false)) B'')→(∀ j B'',Stop j B''→K' (.ret (boolV true)) B'')→ZT Tryz.prog 143 [pasV p.kids,.func (.func 144) [] [ptrV rw 0,ptrV zr 0]] B' K':=fun K' k1 k2=>by
     have hpz:=p.sz_eq;have hpl:=XY p.kids;refine hasPaS (J:=fun i C=>Inv (k+1+pasSz (p.kids.take i)) C∧keeps Mut B' C) (St:=fun C=>∃ j,Stop j C) (by omega) ⟨by simpa [pasSz] using hB,keeps.refl⟩ (fun i h C hC K'' h1 h2=>⟨Znb,?_⟩) (fun C hC=>k1 C ?_ hC.2) (fun C hC=>hC.elim fun j hj=>k2 j C hj)
     ·obtain ⟨hC1,hC2⟩:=hC;have c5:=hC2 _ _ m5 q5;have cw:=hC2 _ _ hmw qw;have cy:=hC2 _ _ hmy qy;have hik:=ih p.kids[i] (a+1) (k+1+pasSz (p.kids.take i)) (XO (p.kids.drop (i+1)) (a+1)++M);have hdk:=Zjx hL.out h;have hks:=Xm (ZpW h);have hkd:=Zd7 h;refine ZE fd144 (by simp) ?_;delta c144 Zj Zq Zb Zm Zr Zc;have hwa:IntKind.i64.wrap (a+1)=a+1:=ZK (by omega) (by omega);replace hdk:=ZpM hdk;replace hkd:=ZpM hkd;replace h1:=ZpM h1;replace h2:=ZpM h2;clear hT hF k1 k2 hL hyk
      (repeat' (first | (simp only [↓Zz,ZA,ptrV,ZpI,ZpJ,ZD,ZpL,undef,Zhy,WB,ZQ, *]) | (refine ZB fun zr zh=>?_; have zg:=zh; (try simp only [ZpO] at zg); (try have zn_c5:=ZpK c5 zh); (try have zn_c5:=ZpK c5 zg.2); (try have zn_c5:=ZpK c5 zg.2.2); (try have zn_cw:=ZpK cw zh); (try have zn_cw:=ZpK cw zg.2); (try have zn_cw:=ZpK cw zg.2.2); (try have zn_cy:=ZpK cy zh); (try have zn_cy:=ZpK cy zg.2); (try have zn_cy:=ZpK cy zg.2.2)) | (with_reducible refine And.intro ?_ ?_)))
      ·exact ZiV
      ·have hsC:=ZpR zh (b:=.cells 74 [bV p.kids[i].con,sV p.kids[i].name,encS paE p.kids[i].kids] 0);refine hik _ _ (by omega) hdk.out (by omega) (by omega) (by omega) (hmono _ _ _ hC1 hsC) (hsC _ _ cy) (hsC _ _ cw) (fun B2 hB2 hk2=>?_) (fun j B2 hB2=>?_)
       ·(repeat' (first | (simp only [↓Zz,ZA,boolV,ZpI,ZpJ, *]) | (refine ZG ?_)))
        refine h1.out _ ⟨?_,hC2.trans ((keeps.sub hsC).trans hk2)⟩;rw [hkd.out,← Nat.add_assoc];exact hB2
       ·(repeat' (first | (simp only [↓Zz,ZA,boolV,ZpI,ZpJ, *]) | (refine ZG ?_)))
        exact h2.out _ ⟨j,hB2⟩
     ·rw [Zqr (ZpY _)] at hC;rw [hpz,show k+(1+pasSz p.kids)=k+1+pasSz p.kids from by omega];exact hC.1
    clear hyk hL hkp
    (repeat' (first | (simp only [↓Zz,ZA,boolV,ZpI,ZpJ,ZpL,JR,ZaD,ZiW, *]) | (refine ZG ?_) | (refine hw _ (fun B2 hB2 hk2=>?_) (fun j B2 hB2=>?_))))
    ·exact hT.out _ hB2 (hkk.trans hk2)
    ·exact hF.out _ _ hB2
   ·(repeat' (first | (simp only [↓Zz,ZA,boolV,ZpI,ZpJ,ZN,ZD,undef,ZiW, *]) | (refine ZG ?_)))
    exact hF.out _ _ hB
theorem allRun {p:Pa} {rb s0:Nat} {H:AH} {K:VE→AH→Prop} (hmono:∀ k B B',Inv k B→SubH B B'→Inv k B')
 (hmut:∀ k B r,Inv k B→Mut r→B r ≠ none) (hs:p.sz≤1099511627776)
 (hy:∀ k (h:k<(p.all 0).length) B,Inv k B→∀ K':VE→AH→Prop,(∀ B',Inv (k+1) B'→keeps Mut B B'→K' (.ret (boolV true)) B')→(∀ B',Stop k B'→K' (.ret (boolV false)) B')→ACall Tryz.prog none y [plV (p.all 0)[k]] B K')
 (hyl:∀ B xs K',WJ Tryz.prog none y xs B K'=ACall Tryz.prog none y xs B K') (hone:VV.one y=true) (hyc:y.cells=[y])
 (hrb:H rb=some (.cells 74 [bV p.con,sV p.name,encS paE p.kids] s0)) (hI:Inv 0 H)
 (hEnd:∀ B u,Inv p.sz B→K (.ret u) B) (hStop:∀ j B u,Stop j B→K (.ret u) B):ZT Tryz.prog 141 [y,ptrV rb 0] H K:=by
 have hw:=fun (ry rw sp sp':Nat) (m1:¬ Mut ry) (m2:¬ Mut rw)=>walk (sp:=sp) (sp':=sp') (L:=p.all 0) hmono hmut m1 m2 hy hyl (p.sz+1) p 0 0 []
 refine ZE fd141 (by simp) ?_;delta c141 Zj Zi Zq Zr Zg Zb;replace hEnd:=ZpM hEnd;replace hStop:=ZpM hStop;clear hy
 (repeat' (first | (simp only [↓Zz,ZA,ptrV,ZpI,ZpJ,ZD,setAt,ZpL,Zn1,Zn2,undef,Zhy,WB,ZnP,Zjn,ZiV, *]) | (refine ZB fun zr zh=>?_; have zg:=zh; (try simp only [ZpO] at zg); (try have zn_hrb:=ZpK hrb zh); (try have zn_hrb:=ZpK hrb zg.2); (try have zn_hrb:=ZpK hrb zg.2.2))))
 rename_i ry ny ny' nq;have hs2:SubH H ((H.set ry (.cells 245 [y] 0)).set zr (.cells 246 [.func (.func 142) [] [ptrV ry 0,ptrV zr 0]] 0)):=(ZpR ny).of_set zg.2;refine hw ry zr 0 0 (fun h=>hmut 0 H ry hI h ny) (fun h=>hmut 0 H zr hI h zg.2) _ _ (ZqK _) (by simp) hs (by omega) (by omega) (hmono _ _ _ hI hs2) (by simp only [ZpU, *,if_true,if_false]<;>rfl) (ZpP _ _ _) (fun B hB _=>?_) (fun j B hB=>?_)
 ·rw [Zp2] at hB
  (repeat' (first | (simp only [↓Zz,boolV, *])))
  exact ⟨rfl,_,B,_,rfl,.refl _ _,hEnd.out B _ hB⟩
 ·(repeat' (first | (simp only [↓Zz,boolV, *])))
  exact ⟨rfl,_,B,_,rfl,.refl _ _,hStop.out j B _ hB⟩
end
end Go.PV.YtglpmlbbaedbiaaGreat
end
section
open List renaming take_of_length_le→Zqr
open Nat renaming le_refl→ZpY
namespace Go.PV
open Go
def OutE (H0 H:AH) (e:TypeId) (k:Nat) (v:VV) (n:Nat) (cs:List VV):Prop:=(v=.slice true 0 []∧n=0∧cs=[]∧SubH H0 H)∨∃ Hb,SubH H0 Hb∧OwnX Hb H e k v n cs
section
variable {H0 H:AH} {e:TypeId} {k n:Nat} {v:VV} {cs:List VV}
theorem OutE.start (hs:SubH H0 H):OutE H0 H e k (.slice true 0 []) 0 []:=.inl ⟨rfl,rfl,rfl,hs⟩
theorem OutE.nil (hs:SubH H0 H):OutE H0 H e k (.lit (.slice none 0 0)) 0 []:=.inr ⟨H,hs,OwnX.nil _ _ _⟩
theorem OutE.sub (h:OutE H0 H e k v n cs):SubH H0 H:=by
 rcases h with ⟨_,_,_,h⟩ | ⟨Hb,h1,h2⟩
 ·exact h
 ·exact h1.trans h2.sub
theorem OutE.cells (h:OutE H0 H e k v n cs):v.cells=[v]∧VV.one v=true:=by
 rcases h with ⟨rfl,_⟩ | ⟨Hb,h1,h2⟩
 ·exact ⟨rfl,rfl⟩
 ·exact h2.cells
theorem OutE.alloc (h:OutE H0 H e k v n cs) {r:Nat} (hr:H r=none) (b:Blk):OutE H0 (H.set r b) e k v n cs:=by
 have hn:=h.sub.none hr;rcases h with ⟨h1,h2,h3,h⟩ | ⟨Hb,h1,h2⟩
 ·exact .inl ⟨h1,h2,h3,h.of_set hn⟩
 ·exact .inr ⟨Hb.set r b,h1.of_set hn,h2.alloc hr b⟩
theorem OutE.allocB (h:OutE H0 H e k v n cs) {r:Nat} (hr:H r=none) (b:Blk):OutE (H0.set r b) (H.set r b) e k v n cs:=by
 rcases h with ⟨h1,h2,h3,h⟩ | ⟨Hb,h1,h2⟩
 ·exact .inl ⟨h1,h2,h3,h.set _ _⟩
 ·exact .inr ⟨Hb.set r b,h1.set _ _,h2.alloc hr b⟩
theorem OutE.back (h:OutE H0 H e k v n cs):GhV H v H0 (.slice false n cs):=by
 rcases h with ⟨rfl,rfl,rfl,h⟩ | ⟨Hb,h1,h2⟩
 ·exact (GhV.imm _).trans (GhV.forget h _)
 ·exact GhV.back h2 h1
theorem OutE.ghost {i:Nat} {t:Nat→VV} {d:List Deferred} (h:OutE H0 H e k (t i) n cs) (N:Nat):Ghost N ⟨t,d⟩ H ⟨upd t i (.slice false n cs),d⟩ H0:=Ghost.slot (A:=⟨t,d⟩) h.back
theorem OutE.append {P:Program} {t b:Nat} {zs:List Value} {x:VV} {m:Nat} {news:List VV} {K:VE→AH→Prop} (h:OutE H0 H e k v n cs) (hel:elT P t=some (e,k,b)) (hz:zeroT P e=some zs) (hzk:zs.length=k) (hk:0<k) (hs:srcV H k x=some (m,news))
 (hone:news.all VV.one=true) (hb:(n+m) * b≤140737488355328) (h63:n+m≤9223372036854775807) (hnl:m=0→news=[]) (hK:∀ v' H',OutE H0 H' e k v' (n+m) (cs++news)→K (.ret v') H'):Zaz P t v x H K:=by
 rcases h with ⟨rfl,rfl,rfl,h⟩ | ⟨Hb,h1,h2⟩
 ·refine Jl hel hz hzk hk (by simp) hs hone hb h63 (fun h0=>hK _ _ (.inl ⟨rfl,by omega,?_,h⟩)) (fun _ v' H' ho=>hK _ _ (.inr ⟨H,h,ho⟩));rw [hnl h0]; rfl
 ·exact ZcR hel hz hzk hk h2 hs hone hb h63 fun v' H' ho=>hK _ _ (.inr ⟨Hb,h1,ho⟩)
theorem OutE.append1 {P:Program} {t b:Nat} {zs:List Value} {xs:List VV} {K:VE→AH→Prop} (h:OutE H0 H e k v n cs) (hel:elT P t=some (e,k,b)) (hz:zeroT P e=some zs) (hzk:zs.length=k) (hk:0<k) (hx:xs.length=k)
 (hone:xs.all VV.one=true) (hb:(n+1) * b≤140737488355328) (h63:n+1≤9223372036854775807) (hK:∀ v' H',OutE H0 H' e k v' (n+1) (cs++xs)→K (.ret v') H'):Zaz P t v (.slice true 1 xs) H K:=by
 refine h.append hel hz hzk hk (m:=1) (news:=xs) ?_ hone hb h63 (fun h=>by omega) hK;simp only [srcV,Nat.one_mul,hx,ZpY,if_true];rw [Zqr (by omega)]
end
theorem OutE.weak {H0 H1 H:AH} {e:TypeId} {k n:Nat} {v:VV} {cs:List VV} (h:OutE H1 H e k v n cs) (hs:SubH H0 H1):OutE H0 H e k v n cs:=by
 rcases h with ⟨h1,h2,h3,h4⟩ | ⟨Hb,h1,h2⟩
 ·exact .inl ⟨h1,h2,h3,hs.trans h4⟩
 ·exact .inr ⟨Hb,hs.trans h1,h2⟩
end Go.PV
end
section
namespace Go.PV
open Go
section
variable {cx:Cx} {Hi:Nat→AH} {K:AF→AH→Prop} {Q:APost} {A:AF} {H:AH}
theorem ZiZ:vcPl2 cx Hi .fin K Q A H=K A H:=rfl
def pl2K (cx:Cx) (Hi:Nat→AH) (p:GPlan) (K:AF→AH→Prop) (Q:APost) (H:AH):AF→AH→Prop:=fun A' _=>vcPl2 cx Hi p K Q A' H
theorem Zc5 (p:GPlan) (A':AF) (H':AH):pl2K cx Hi p K Q H A' H'=vcPl2 cx Hi p K Q A' H:=rfl
theorem ZfK (i:Nat) (d:Option Tmp) (op:Op) (p:GPlan):vcPl2 cx Hi (.tk i ⟨d,op,none⟩ p) K Q A H=vcDo cx ⟨d,op,none⟩ (pl2K cx Hi p K Q H) noQ A (Hi i):=rfl
def one2K (cx:Cx) (Hi:Nat→AH) (nd:List Nat) (p:GPlan) (K:AF→AH→Prop) (Q:APost) (H:AH):AF→AH→Prop:=fun A' H'=>(∀ k∈nd,SubH (Hi k) H→SubH (Hi k) H')∧vcPl2 cx Hi p K Q A' H'
theorem Zc6 (nd:List Nat) (d:Option Tmp) (op:Op) (p:GPlan):vcPl2 cx Hi (.one nd ⟨d,op,none⟩ p) K Q A H=vcDo cx ⟨d,op,none⟩ (one2K cx Hi nd p K Q H) Q A H:=rfl
theorem Zcy (nd:List Nat) (p:GPlan) (A':AF) (H':AH):one2K cx Hi nd p K Q H A' H'=((∀ k∈nd,SubH (Hi k) H→SubH (Hi k) H')∧vcPl2 cx Hi p K Q A' H'):=rfl
end
theorem Zms {cx:Cx} {Q:APost} {A:AF} {H:AH} {id:Nat} {a:ACode} (h:ACx cx a (Xh id Q) A H):ACx cx (.block id a) Q A H:=by
 intro c hc;cases c with
 | block i x =>
   simp only [ZS,ACode.block.injEq] at hc;obtain ⟨rfl,h1⟩:=hc;exact Zic (h x h1)
 | region id ops draw =>
   simp only [ZS] at hc;split at hc
   ·unfold Xo at hc;dsimp only at hc;split at hc
    ·split at hc<;>cases hc
    ·cases hc
   ·split at hc<;>cases hc
 | seq x y=>simp only [ZS] at hc; split at hc<;>cases hc
 | _=>simp only [ZS] at hc; cases hc
end Go.PV
end
section
set_option maxRecDepth 20000
set_option maxHeartbeats 4000000
namespace Go.PV.YtglpmlbbaedbiaaGreat
open Go Go.Proofs
end Go.PV.YtglpmlbbaedbiaaGreat
end
section
open List renaming eq_nil_of_length_eq_zero→ZqD,getElem?_eq_none→ZqS
namespace Go.PV
open Go
def Zi0 (x:VV) (want:Bool) (cx:Cx) (d:Option Tmp) (op:Op) (k:AF→AH→Prop) (Q:APost) (A:AF) (H:AH):Prop :=
 match x with
 | .lit (.bool t)=>(if t=want then vcDo cx ⟨d,op,none⟩ k Q A H else (dOk cx.N d∧ZN cx.P op A∧k (A.put d ZD) H))
 | .lit (.tuple _)=>dOk cx.N d∧ZN cx.P op A∧k (A.put d ZD) H
 | _=>False
def vcG2 (cx:Cx) (o:GOp) (k:AF→AH→Prop) (Q:APost) (A:AF) (H:AH):Prop :=
 match o.g with
 | none=>vcDo cx ⟨o.dst,o.op,none⟩ k Q A H
 | some (d,want)=>Zi0 (A.t d) want cx o.dst o.op k Q A H
def vcL2 (cx:Cx):List GOp→APost→AF→AH→Prop
 | [],Q=>Q .normal
 | o::l,Q=>vcG2 cx o (vcL2 cx l Q) Q
section
variable {cx:Cx} {Q:APost} {S:Nat→Prop} {H:AH} {w:World} {A:AF} {a:Act}
theorem Zmt {ops:Array Oper} {o:Oper} {next:AF→AH→Prop} (hg:gOk ops o=true) (h:vcG2 cx (gopOf ops o) next Q A H) {S0:Nat→Prop} {H0:AH} {w0:World} (k:Step S0 H0 w0 S H w) (hs:Sim S H w) (hf:RvF cx.N S w A a) (nx:Act→World→Prop)
 (h1:∀ S' H' A' a' w',Step S0 H0 w0 S' H' w'→Sim S' H' w'→RvF cx.N S' w' A' a'→next A' H'→nx a' w') :
 if Region.wanted o (yielded ops a.tmps) then o.wpIn (XR cx.P cx.ro) 0 cx.P a w nx (LQ cx Q S0 H0 w0) else (∀ f,o.about cx.P w a.eval=some f→(XR cx.P cx.ro).fn f)∧nx (a.put o.dst undef) w:=by
 unfold vcG2 at h;split at h
 ·rename_i he;refine ZdQ hg ?_ k hs hf nx h1;unfold vcG;rw [he];exact h
 ·rename_i d want he;unfold Zi0 at h;split at h
  ·rename_i b hb;refine ZdQ hg ?_ k hs hf nx h1;unfold vcG;rw [he];simp only [hb];exact h
  ·rename_i vs hb;have hw:=Zht (ops:=ops) (o:=o) hf he hb;rw [hw,if_neg (by simp)];refine ⟨ZcD h.2.1 hf,h1 S H _ _ w k hs (RvF.put hf (x:=ZD) (u:=undef) ?_ rfl) h.2.2⟩;intro d' hd';have h2:dOk cx.N o.dst:=h.1;rw [hd'] at h2;exact h2
  ·exact h.elim
theorem ZhK {ops:Array Oper}:∀ (is:List Nat) (l:List Oper) (A:AF) (H:AH) (S:Nat→Prop) (w:World) (a:Act) (S0:Nat→Prop) (H0:AH) (w0:World),
 (∀ j:Nat,l[j]?=(is[j]?).bind fun i:Nat=>ops[i]?)→is.length=l.length→(∀ o∈l,gOk ops o=true)→vcL2 cx (l.map (gopOf ops)) Q A H→Step S0 H0 w0 S H w→Sim S H w→RvF cx.N S w A a →
 wpOpsIn (XR cx.P cx.ro) 0 cx.P ops (LQ cx Q S0 H0 w0) is a w
 | [],l,A,H,S,w,a,S0,H0,w0,hl,hlen,hg,h,k,hs,hf=>by
   have:l=[]:=ZqD (by simpa using hlen.symm)
   subst this;exact ⟨by simp,S,H,A,k,hs,hf,h⟩
 | i::is,[],A,H,S,w,a,S0,H0,w0,hl,hlen,hg,h,k,hs,hf=>by simp at hlen
 | i::is,o::l,A,H,S,w,a,S0,H0,w0,hl,hlen,hg,h,k,hs,hf=>by
   have ho:ops[i]?=some o:=by have:=hl 0; simpa using this.symm
   simp only [wpOpsIn,ho]
   exact Zmt (hg o (by simp)) h k hs hf _ fun S' H' A' a' w' g1 g2 g3 g4 =>
    ZhK is l A' H' S' w' a' S0 H0 w0 (fun j=>by have:=hl (j+1); simpa using this) (by simpa using hlen) (fun o' ho'=>hg o' (by simp [ho'])) g4 g1 g2 g3
theorem Zmu {id:Nat} {ops:Array Oper} (hg:ops.all (gOk ops)=true) (h:vcL2 cx (ops.toList.map (gopOf ops)) Q A H):AC cx (.region id ops false) Q A H:=by
 intro S w a hs hf;refine wpIn_region (ZhK (List.range ops.size) ops.toList A H S w a S H w ?_ (by simp) ?_ h (.refl _ _ _) hs hf)
 ·intro j;by_cases hj:j<ops.size
  ·rw [List.getElem?_range hj];simp
  ·rw [ZqS (by simpa using hj),ZqS (by simpa using hj)];rfl
 ·intro o ho;exact Array.all_eq_true_iff_forall_mem.1 hg o (by simpa using ho)
end
theorem Zj7 {P:Program} {ops:Array Oper} {l:List GOp}:Xo P ops ≠ .reg l:=by
 unfold Xo;dsimp only;split
 ·split
  ·intro h; cases h
  ·intro h; cases h
 ·intro h; cases h
theorem acx_reg2 {cx:Cx} {l:List GOp} {Q:APost} {A:AF} {H:AH} (h:vcL2 cx l Q A H):ACx cx (.reg l) Q A H:=by
 intro c hc;cases c with
 | region id ops draw =>
   simp only [ZS] at hc;split at hc
   ·exact absurd hc Zj7
   ·rename_i hd;have hd':draw=false:=by simpa using hd
    subst hd';split at hc
    ·rename_i hg
     injection hc with hc
     subst hc;exact Zmu hg h
    ·cases hc
 | seq x y=>simp only [ZS] at hc; split at hc<;>cases hc
 | _=>simp only [ZS] at hc; cases hc
theorem acx_seqA {cx:Cx} {a b:ACode} {Q:APost} {K:AF→AH→Prop} {A:AF} {H:AH} (hK:∀ A H,K A H→ACx cx b Q A H) (h:ACx cx a (thenA K Q) A H):ACx cx (.seq a b) Q A H:=by
 intro c hc;cases c with
 | seq x y =>
   simp only [ZS] at hc;split at hc
   ·cases hc
   ·injection hc with h1 h2
    refine ZkH ((h x h1).mono ?_);intro e A' H' hq;cases e with
    | normal=>exact hK A' H' hq y h2
    | _=>exact hq
 | region id ops draw =>
   simp only [ZS] at hc;split at hc
   ·exact absurd hc Zfm
   ·split at hc<;>cases hc
 | _=>simp only [ZS] at hc; cases hc
section
variable {cx:Cx} {Q:APost} {k:AF→AH→Prop} {A:AF} {H:AH} {d:Option Tmp} {op:Op} {l:List GOp}
@[congr] theorem guard2_congr {x x':VV} {want:Bool} (h:x=x'):Zi0 x want cx d op k Q A H=Zi0 x' want cx d op k Q A H:=by rw [h]
end
end Go.PV
end
section
open List renaming drop_eq_getElem_cons→Zql,take_append_drop→ZqV,length_drop→ZqO
open Option renaming map_none→Zqz
set_option maxRecDepth 20000
set_option maxHeartbeats 4000000
namespace Go.PV.YtglpmlbbaedbiaaGreat
open Go Go.Proofs
def lastB (l:List Bd) (n:ByteArray):Option Ex:=(l.reverse.find? fun b=>decide (b.1=n)).map (·.2)
mutual
def Ex.put:Ex→List Bd→Ex
 | .mk op n ks,l=>match (if op=1 then lastB l n else none) with
   | some e=>e
   | none=>.mk op n (Zhb ks (if op=5 then l.filter (fun b=>!decide (b.1=n)) else l))
def Zhb:List Ex→List Bd→List Ex
 | [],_=>[]
 | k::ks,l=>k.put l::Zhb ks l
end
theorem ZbF {cx:Cx} {a:ACode} {Q:APost} {t:Nat→VV} {d:List Deferred} {H:AH} (p:(Nat→VV)→AH→Prop) (hp:p t H) (h:∀ t' H',p t' H'→ACx cx a Q ⟨t',d⟩ H'):ACx cx a Q ⟨t,d⟩ H:=h t H hp
theorem Zmv {l:List Bd} {n:ByteArray} (h:∀ j (h:j<l.length),¬ l[j].1=n):lastB l n=none:=by
 unfold lastB;rw [List.find?_eq_none.2,Zqz];intro b hb;obtain ⟨j,hj,rfl⟩:=List.getElem_of_mem (List.mem_reverse.1 hb);simpa using h j hj
theorem Zmw {l:List Bd} {n:ByteArray} {k:Nat} (hk:k<l.length) (h1:l[k].1=n) (h:∀ j (h:j<l.length),k<j→¬ l[j].1=n):lastB l n=some l[k].2:=by
 unfold lastB;have e:l=l.take k++l[k]::l.drop (k+1):=by rw [← Zql hk,ZqV]
 have h2:(l.drop (k+1)).reverse.find? (fun b=>decide (b.1=n))=none:=by
  rw [List.find?_eq_none];intro b hb;obtain ⟨j,hj,rfl⟩:=List.getElem_of_mem (List.mem_reverse.1 hb);rw [List.getElem_drop];simpa using h (k+1+j) (by rw [ZqO] at hj; omega) (by omega)
 have h3:l.reverse.find? (fun b=>decide (b.1=n))=some l[k]:=by
  conv=>lhs; rw [e]
  rw [List.reverse_append,List.reverse_cons,List.append_assoc,List.find?_append,h2,List.find?_append];simp [h1]
 rw [h3]; rfl
end Go.PV.YtglpmlbbaedbiaaGreat
end
section
open Bool renaming and_self→Zqo
open Go.PV.AH renaming set_none→ZpO,del_ne→Zqf,set_same→ZpP,get→ZpU,ne_of→ZpK,set_ne→ZpV,set_set→Zqj
open Go.PV.GhV renaming refl→Zp8
open Go.PV.Hold renaming mk→ZpM
open Go.PV.PureF renaming forget→Zp4,use→ZpQ
open Go.PV.SubH renaming refl→ZpN,of_set→ZpS,new→ZpR
open Int renaming reduceLT→Zqe,reduceNeg→ZqG
open List renaming drop→ZpL,drop_zero→ZqL,map_cons→Zp3,map_nil→Zqa,length_cons→Zqb,length_nil→Zqh,all_cons→Zqn,all_nil→Zqv,set_cons_zero→Zqs,drop_eq_getElem_cons→Zql,getElem_mem→ZpW,drop_eq_nil_of_le→Zp9,getD_cons_zero→ZqM,getD_cons_succ→Zqw,getD_nil→Zqx,take_of_length_le→Zqr
open Nat renaming reduceEqDiff→ZpI,reduceLT→ZpJ,succ_ne_self→Zp7,zero_add→Zp2,le_refl→ZpY,reduceAdd→ZpT
open Option renaming map_some→Zp6
set_option maxRecDepth 20000
set_option maxHeartbeats 4000000
namespace Go.PV.YtglpmlbbaedbiaaGreat
open Go Go.Proofs
theorem ZlQ (p:Pa):PureF Tryz.prog 137 [paV p] (boolV (!p.con)):=by
 refine Zp4 fun H=>?_
 refine ZE fd137 (by simp) ?_;delta c137 Zj Zq Zd Zb Zr Zc
 (repeat' (first | (simp only [↓Zz,ZA,ptrV,boolV,ZpI,ZpJ,ZD,ZpL,undef,ZaY,Zat, *]) | (refine ZG ?_) | (refine ZB fun zr zh=>?_; have zg:=zh; (try simp only [ZpO] at zg)) | (exact ZpN _) | (refine ZpS ?_ ?_)))
theorem isCon_ok (p:Pa):PureF Tryz.prog 138 [paV p] (boolV p.con):=by
 refine Zp4 fun H=>?_
 refine ZE fd138 (by simp) ?_;delta c138 Zj Zq Zd Zb Zc
 (repeat' (first | (simp only [↓Zz,ZA,ptrV,boolV,ZpI,ZpJ,ZD,ZpL,undef,ZaY,Zat, *]) | (refine ZG ?_) | (refine ZB fun zr zh=>?_; have zg:=zh; (try simp only [ZpO] at zg)) | (exact ZpN _) | (refine ZpS ?_ ?_)))
mutual
theorem Pa.all_around:∀ (p:Pa) (a:Int),∀ x∈p.all a,a≤x.2∧x.2<a+p.sz
 | .mk c n ks,a,x,h=>by
   rw [Pa.all] at h;rw [Pa.sz];rcases List.mem_cons.1 h with rfl | h
   ·dsimp only; omega
   ·have:=ZeC ks (a+1) x h; omega
theorem ZeC:∀ (l:List Pa) (a:Int),∀ x∈XO l a,a≤x.2∧x.2<a+pasSz l
 | [],a,x,h=>by cases h
 | p::l,a,x,h=>by
   rw [XO] at h;rw [pasSz];rcases List.mem_append.1 h with h | h
   ·have:=Pa.all_around p a x h; omega
   ·have:=ZeC l a x h; omega
end
def dpL (l:List Pl):Int:=l.foldl (fun d x=>max d (x.2+1)) 0
theorem dpL_snoc (l:List Pl) (x:Pl):dpL (l++[x])=max (dpL l) (x.2+1):=by rw [dpL,List.foldl_append]; rfl
def plErr (l:List Co) (x:Pl):Int :=
 if nameB x.1.name=true∧¬ (x.1.con=false∧0<x.1.kids.length) then
  (if x.1.con=true then (if atCo l x.1.name<0 then 9 else if (x.1.kids.length:Int)=(match l[(atCo l x.1.name).toNat]? with | some c=>c.arity | none=>0) then 0 else 5) else 0)
 else 411
def Jj (l:List Co):List Pl→Int
 | []=>0
 | x::m=>if plErr l x=0 then Jj l m else plErr l x
def paChk (l:List Co) (p:Pa):Int:=if 100<p.sz then 7 else if 50<dpL (p.all 0) then 6 else Jj l (p.all 0)
theorem Zjy {t:Nat→VV} {r4 sp:Nat} {e:TypeId} {c R:Int} {H H0:AH} (h4:t 4=ptrV r4 0) (k4:H r4=some (.cells e [iV c] sp)) (hc:c=R) (hs:SubH H0 H):WL Tryz.prog [.cell 4 38] (fun e H'=>e=.ret (iV R)∧SubH H0 H') t [] .returning H:=by
 subst hc;refine ⟨iV c,H,iV c,?_,Zp8 _ _,rfl,hs⟩;simp only [resV,YY,YX,YO,h4,k4,ptrV,ZqL,Zp6];rfl
theorem Zob {t:Nat→VV} {r4 r sp:Nat} {e:TypeId} {c R:Int} {H H0:AH} (h4:t 4=ptrV r4 0) (k4:H r4=some (.cells e [iV c] sp)) (hc:c=R) (hne:r4 ≠ r) (qr:H r=some (.obj (.deferred (some [])))) (hs:SubH H0 H) (gr:H0 r=none) :
 Zcw Tryz.prog [.cell 4 38] (fun e H'=>e=.ret (iV R)∧SubH H0 H') .ret ⟨t,[JM r]⟩ H:=⟨by simp,qr,Zjy h4 (by rw [Zqf _ hne]; exact k4) hc (hs.del gr)⟩
theorem ZlR {t:Nat→VV} {r4 r r' sp:Nat} {e:TypeId} {c R:Int} {H H0:AH} (h4:t 4=ptrV r4 0) (k4:H r4=some (.cells e [iV c] sp)) (hc:c=R) (hne:r4 ≠ r) (hne':r4 ≠ r') (hrr:r ≠ r') (qr:H r=some (.obj (.deferred (some [])))) (qr':H r'=some (.obj (.deferred (some [])))) (hs:SubH H0 H) (gr:H0 r=none) (gr':H0 r'=none) :
 WL Tryz.prog [.cell 4 38] (fun e H'=>e=.ret (iV R)∧SubH H0 H') t [JM r',JM r] .returning H:=⟨by simp,qr',by simp,by rw [Zqf _ hrr]; exact qr,Zjy h4 (by rw [Zqf _ hne,Zqf _ hne']; exact k4) hc ((hs.del gr').del gr)⟩
theorem pcheck2 {p:Pa} {l:List Co} {t:Nat→VV} {r r2 r3 r4 r5 r6:Nat} {H0 B:AH} {R:Int} (hp:p.sz≤1099511627776) (hl:l.length≤1099511627776) (hnm:∀ x∈p.all 0,x.1.name.size≤1099511627776) (hR:R=paChk l p) (hs:SubH H0 B) (q2:B r2=some (.cells 74 [bV p.con,sV p.name,encS paE p.kids] 0)) (q3:B r3=some (.cells 41 [cosV l] 0)) (q4:B r4=some (.cells 38 [iV 0] 0)) (q5:B r5=some (.cells 3 [iV p.sz] 0)) (q6:B r6=some (.cells 3 [iV (dpL (p.all 0))] 0)) (qr:B r=some (.obj (.deferred (some [])))) (g4:H0 r4=none) (gr:H0 r=none)
 (t2:t 2=ptrV r2 0) (t3:t 3=ptrV r3 0) (t4:t 4=ptrV r4 0) (t5:t 5=ptrV r5 0) (t6:t 6=ptrV r6 0):ACx ⟨Tryz.prog,76,none⟩ ZkR (Zcw Tryz.prog [.cell 4 38] fun e H'=>e=.ret (iV R)∧SubH H0 H') ⟨t,[JM r]⟩ B:=by
 unfold paChk at hR;delta ZkR Zb Zm Zc Zr Zo Zi Zg Zd Zq Za Zp;have d4r:r4 ≠ r:=fun e=>by rw [e,qr] at q4; simp at q4
 have dr4:¬ r=r4:=Ne.symm d4r;replace hR:=ZpM hR;refine ZV rfl (fun _ _ _ h=>h) ?_
 (repeat' (first | (refine Znq p (fun rb nb=>?_)) | (simp only [↓Wq,↓Wg,↓XM,↓ZfI,↓XN,↓XZ,↓WX,↓Zkr,↓Xe,↓Yf,↓Yi,↓Wa,↓ZdY,↓ZbR,↓Yu,↓Yr,↓XJ,↓Ys,↓XK,↓Yt,↓YS,↓WZ,↓ZC,↓YH,↓YA,↓YU,↓Wr,↓XP,↓XF,↓WA,ptrV,Zp3,Zqa,Zqb,Zqh,ite_true,ite_false,ZpI,ZpJ,true_and,Zp7,decide_true,decide_false,setAt,Zqn,Zqv,Zqo,eq_self,Zp2,ZpL,Wi,XT,Zap,XS,Zqs,ZpY,XG,XH,Xr,WP,WQ,ZQ,WB,JW,ZkQ, *]) | (refine ZX ?_ ?_<;>intro)))
 ·have h1:100<p.sz:=by omega
  exact Zob (by simp only [ZC,ZpI,if_false, *]<;>rfl) (ZpP _ _ _) (by rw [hR.out,if_pos h1]) d4r (by simp only [ZpU, *,if_false]<;>rfl) (hs.of_set g4) gr
 ·have h1:¬ 100<p.sz:=by omega
  exact Zob (by simp only [ZC,ZpI,if_false, *]<;>rfl) (ZpP _ _ _) (by rw [hR.out,if_neg h1,if_pos (by assumption)]) d4r (by simp only [ZpU, *,if_false]<;>rfl) (hs.of_set g4) gr
 have hR2:R=Jj l (p.all 0):=by rw [hR.out,if_neg (by omega),if_neg (by assumption)]
 clear hR;have nb4:=ZpK q4 nb;have nbr:=ZpK qr nb
 refine ZbF (fun t H=>SubH B H∧H rb=some (.cells 74 [bV p.con,sV p.name,encS paE p.kids] 0)∧t 2=ptrV r2 0∧t 3=ptrV r3 0∧t 4=ptrV r4 0∧t 27=.func (.func 141) [] [ptrV rb 0])
  ⟨ZpR nb,ZpP _ _ _,(by simp only [ZC,ZpI,if_false, *]<;>rfl),(by simp only [ZC,ZpI,if_false, *]<;>rfl),(by simp only [ZC,ZpI,if_false, *]<;>rfl),(by simp only [ZC,ZpI,if_true,if_false, *]<;>rfl)⟩ ?_
 clear t2 t3 t4 t5 t6;rintro t Hx ⟨sx,xb,t2,t3,t4,t27⟩;replace q3:=sx _ _ q3;replace q4:=sx _ _ q4;replace qr:=sx _ _ qr;replace hs:=hs.trans sx;clear sx nb nb4 nbr q2 q5 q6 B;replace hR2:=ZpM hR2;refine Zd2 rfl (.inl t27) (by kernel_rfl) ?_;intro r' l0 fn ca cb hca hcb hr hl0 hne hfn;have e4:=ZpK q4 hr;have f4:=ZpK q4 hl0;have e3:=ZpK q3 hr;have f3:=ZpK q3 hl0;have er:=ZpK qr hr;have fr:=ZpK qr hl0;have d34:r3 ≠ r4:=fun e=>by rw [e,q4] at q3; simp at q3
 have gr':H0 r'=none:=hs.none hr;have gl:H0 l0=none:=hs.none hl0;obtain ⟨Hb,hHb⟩:∃ Hb,Hb=(Hx.del r4).set r' (.obj (.deferred (some []))):=⟨_,rfl⟩
 have b4:Hb r4=none:=by rw [hHb,ZpV _ _ e4.1,AH.del_same]
 have bl:Hb l0=none:=by rw [hHb,ZpV _ _ hne,Zqf _ f4.2]; exact hl0
 have b3:Hb r3=some (.cells 41 [cosV l] 0):=by rw [hHb,ZpV _ _ e3.1,Zqf _ d34]; exact q3
 have br:Hb r=some (.obj (.deferred (some []))):=by rw [hHb,ZpV _ _ er.1,Zqf _ (Ne.symm d4r)]; exact qr
 have br':Hb r'=some (.obj (.deferred (some []))):=by rw [hHb]; exact ZpP _ _ _
 have hsb:SubH H0 Hb:=fun i b h=>by
  have hx:=hs _ _ h;rw [hHb,ZpV _ _ (ZpK hx hr).1,Zqf _ (fun e=>by rw [e,g4] at h; cases h)];exact hx
 refine allRun (p:=p) (Mut:=fun x=>x=l0∨x=r4) (Inv:=fun k B=>SubH Hb B∧B l0=some (.loop .ready none fn 76 t #[28] ca cb r')∧B r4=some (.cells 38 [iV 0] 0)∧R=Jj l ((p.all 0).drop k)) (Stop:=fun k B=>SubH Hb B∧B l0=some (.loop .done (some .ret) fn 76 t #[28] ca cb r')∧B r4=some (.cells 38 [iV R] 0))
  (fun k B B' h hs=>⟨h.1.trans hs,hs _ _ h.2.1,hs _ _ h.2.2.1,h.2.2.2⟩) (fun k B x h hm=>?_) hp ?_ (fun _ _ _=>rfl) rfl rfl (s0:=0) ?_ ?_ ?_ ?_
 ·rcases hm with rfl | rfl
  ·rw [h.2.1]; simp
  ·rw [h.2.2.1]; simp
 ·rintro k hk B ⟨hB,hBl,h4,hRk⟩ K' hk1 hk2;replace hRk:R=if plErr l (p.all 0)[k]=0 then Jj l ((p.all 0).drop (k+1)) else plErr l (p.all 0)[k]:=by rw [hRk,Zql hk,Jj]
  have hxn:=hnm _ (ZpW hk);generalize (p.all 0)[k]=x at *
  have k3:=hB _ _ b3;have kr:=hB _ _ br;have kr':=hB _ _ br';have c1:=Zk0 l x.1.name hl;have c2:=Zd6 x.1.name hxn;have c3:PureF Tryz.prog 137 [.agg [bV x.1.con,sV x.1.name,encS paE x.1.kids]] (boolV (!x.1.con)):=ZlQ x.1;have c4:PureF Tryz.prog 138 [.agg [bV x.1.con,sV x.1.name,encS paE x.1.kids]] (boolV x.1.con):=isCon_ok x.1
  have hat:atCo l x.1.name = -1∨∃ j:Nat,∃ h:j<l.length,atCo l x.1.name=j:=by
   rcases WI (fun c:Co=>decide (c.name=x.1.name)) l with ⟨h,_⟩ | ⟨j,h,hj,_⟩
   ·exact .inl h
   ·exact .inr ⟨j,h,hj⟩
  have hstop:∀ (H:AH) (c:Int),c=R→SubH Hb (H.set l0 (.loop .done (some .ret) fn 76 t #[28] ca cb r'))→H r4=some (.cells 38 [iV c] 0)→K' (.ret (boolV false)) (H.set l0 (.loop .done (some .ret) fn 76 t #[28] ca cb r')):=fun H c hc h1 h2=>by
   subst hc;exact hk2 _ ⟨h1,ZpP _ _ _,by rw [ZpV _ _ f4.1]; exact h2⟩
  unfold plErr at hRk;show ACall Tryz.prog none _ [.agg [bV x.1.con,sV x.1.name,encS paE x.1.kids,iV x.2]] B K';generalize x.1.con=xc at *
  generalize x.1.name=xn at *
  generalize x.1.kids=xk at *
  generalize x.2=xa at *
  clear hxn hR2;generalize hnb:nameB xn=nb at *
  generalize hac:atCo l xn=ac at *
  generalize Jj l ((p.all 0).drop (k+1))=R' at *
  replace hRk:=ZpM hRk;replace hstop:=ZpM hstop;refine ZbS (l:=l0) (pe:=none) (fn:=fn) (N:=76) (t:=t) (ps:=#[28]) («asg»:=ca) (bd:=cb) (ds:=r') hBl rfl (by simp) hfn ?_;refine Zha hca ?_
  (repeat' (first | (simp only [↓Zz,ZA,ptrV,ZpI,ZpJ,ZpT,setAt,Zbp,Zkq,Zgu, *]) | (refine ZV rfl (fun _ _ _ h=>h) ?_) | (refine ZB fun zr zh=>?_; have zg:=zh; (try simp only [ZpO] at zg); (try have zn_h4:=ZpK h4 zh); (try have zn_h4:=ZpK h4 zg.2); (try have zn_h4:=ZpK h4 zg.2.2); (try have zn_k3:=ZpK k3 zh); (try have zn_k3:=ZpK k3 zg.2); (try have zn_k3:=ZpK k3 zg.2.2); (try have zn_kr:=ZpK kr zh); (try have zn_kr:=ZpK kr zg.2); (try have zn_kr:=ZpK kr zg.2.2); (try have zn_kr':=ZpK kr' zh); (try have zn_kr':=ZpK kr' zg.2); (try have zn_kr':=ZpK kr' zg.2.2); (try have zn_hBl:=ZpK hBl zh); (try have zn_hBl:=ZpK hBl zg.2); (try have zn_hBl:=ZpK hBl zg.2.2)) | (with_reducible refine And.intro ?_ ?_)))
  ·exact ⟨none,rfl⟩
  ·intro pe;refine Zha hcb ?_;have hfl:∀ b1 b2 b3 b4,SubH Hb ((((B.set zr b1).set l0 b2).set r4 b3).set l0 b4):=fun _ _ _ _=>(((hB.of_set (hB.none zh)).of_set bl).of_set b4).of_set bl
   cases nb with
   | false =>
     have e:=ZpM (show (411:Int)=R by rw [hRk.out]; simp);clear hRk
     (repeat' (first | (simp only [↓Zz,ZA,ptrV,boolV,ZpI,ZpJ,reduceCtorEq,ZN,ZD,setAt,ZpL,undef,ZaM,JA,WT,ZW,JW,Zbb,ZfT,Zes, *]) | (refine ZV rfl (fun _ _ _ h=>h) ?_) | (refine ZpQ (c1) ?_) | (refine ZpQ (c2) ?_)))
     exact ⟨⟨pe,(by simp only [ZpU, *,if_true,if_false]<;>rfl)⟩,hstop.out _ _ e.out (hfl _ _ _ _) (ZpP _ _ _)⟩
   | true =>
     cases xc with
     | false =>
       by_cases hkk:0<xk.length
       ·have hkk2:(0:Int)<(xk.length:Int):=by omega
        have e:=ZpM (show (411:Int)=R by rw [hRk.out]; simp [hkk]);clear hRk
        (repeat' (first | (simp only [↓Zz,ZA,ptrV,intV,boolV,ZpI,ZpJ,reduceCtorEq,setAt,ZpL,ZaM,JA,JR,WB,WT,ZW,ZaD,JW,WK,Zbb,ZfT,Zes, *]) | (refine ZV rfl (fun _ _ _ h=>h) ?_) | (refine ZpQ (c1) ?_) | (refine ZpQ (c2) ?_) | (refine ZpQ (c3) ?_)))
        exact ⟨⟨pe,(by simp only [ZpU, *,if_true,if_false]<;>rfl)⟩,hstop.out _ _ e.out (hfl _ _ _ _) (ZpP _ _ _)⟩
       ·have hkk2:¬ (0:Int)<(xk.length:Int):=by omega
        have e:=ZpM (show R=R' by rw [hRk.out]; simp [hkk]);clear hRk
        (repeat' (first | (simp only [↓Zz,ZA,ptrV,intV,boolV,ZpI,ZpJ,reduceCtorEq,ZN,ZD,ZpL,undef,ZaM,JA,JR,WB,WT,ZW,ZaD,WK,Zbb,ZfT,Zes,ZiU, *]) | (refine ZV rfl (fun _ _ _ h=>h) ?_) | (refine ZJ mixed (fun _ _ _ _ e h=>⟨e.trans h.1,h.2⟩) _ (ZpN _) ?_) | (exact ZpN _) | (refine ZpQ (c1) ?_) | (refine ZpQ (c2) ?_) | (refine ZpQ (c3) ?_) | (refine ZpQ (c4) ?_) | (with_reducible refine And.intro ?_ ?_)))
        exact ⟨⟨pe,ZpP _ _ _⟩,hk1 _ ⟨by rw [Zqj]; exact (hB.of_set (hB.none zh)).of_set bl,ZpP _ _ _,(by simp only [ZpU, *,if_false]<;>rfl),e.out⟩ (fun i b hm hb=>by rw [Zqj,ZpV _ _ (fun h=>hm (.inl h)),ZpV _ _ (ZpK hb zh).1]; exact hb)⟩
     | true =>
       rcases hat with rfl | ⟨j,hj,rfl⟩
       ·have e:=ZpM (show (9:Int)=R by rw [hRk.out]; simp);clear hRk
        (repeat' (first | (simp only [↓Zz,ZA,ptrV,boolV,ZpI,ZpJ,reduceCtorEq,ZN,ZD,setAt,ZpL,undef,Zqe,ZqG,ZaM,JA,WB,WT,ZW,JW,Zbb,ZfT,Zes,ZiU, *]) | (refine ZV rfl (fun _ _ _ h=>h) ?_) | (refine ZpQ (c1) ?_) | (refine ZpQ (c2) ?_) | (refine ZpQ (c3) ?_) | (refine ZpQ (c4) ?_)))
        exact ⟨⟨pe,(by simp only [ZpU, *,if_true,if_false]<;>rfl)⟩,hstop.out _ _ e.out (hfl _ _ _ _) (ZpP _ _ _)⟩
       ·have hcd:=Zaj hj;have hjl:(j:Int)<(l.length:Int):=by omega
        have hj0:¬ (j:Int)<0:=by omega
        have hgj:l[(j:Int).toNat]?=some l[j]:=by simp [hj]
        by_cases hka:(xk.length:Int)=l[j].arity
        ·have e:=ZpM (show R=R' by rw [hRk.out]; simp [hj,hka]);clear hRk
         (repeat' (first | (simp only [↓Zz,ZA,ptrV,intV,boolV,ZpI,ZpJ,reduceCtorEq,ZN,ZD,ZpL,undef,ZaM,JA,JR,Zct,ZQ,WB,WT,ZW,ZaD,Za7,WK,Zbb,ZfT,Zes,ZiU, *]) | (refine ZV rfl (fun _ _ _ h=>h) ?_) | (refine ZJ mixed (fun _ _ _ _ e h=>⟨e.trans h.1,h.2⟩) _ (ZpN _) ?_) | (exact ZpN _) | (refine ZpQ (c1) ?_) | (refine ZpQ (c2) ?_) | (refine ZpQ (c3) ?_) | (refine ZpQ (c4) ?_) | (with_reducible refine And.intro ?_ ?_)))
         exact ⟨⟨pe,ZpP _ _ _⟩,hk1 _ ⟨by rw [Zqj]; exact (hB.of_set (hB.none zh)).of_set bl,ZpP _ _ _,(by simp only [ZpU, *,if_false]<;>rfl),e.out⟩ (fun i b hm hb=>by rw [Zqj,ZpV _ _ (fun h=>hm (.inl h)),ZpV _ _ (ZpK hb zh).1]; exact hb)⟩
        ·have e:=ZpM (show (5:Int)=R by rw [hRk.out]; simp [hj,hka,hj0]);clear hRk
         (repeat' (first | (simp only [↓Zz,ZA,ptrV,intV,boolV,ZpI,ZpJ,reduceCtorEq,ZN,ZD,setAt,ZpL,undef,ZaM,JA,JR,Zct,ZQ,WB,WT,ZW,ZaD,JW,Za7,WK,Zbb,ZfT,Zes,ZiU, *]) | (refine ZV rfl (fun _ _ _ h=>h) ?_) | (refine ZJ mixed (fun _ _ _ _ e h=>⟨e.trans h.1,h.2⟩) _ (ZpN _) ?_) | (exact ZpN _) | (refine ZpQ (c1) ?_) | (refine ZpQ (c2) ?_) | (refine ZpQ (c3) ?_) | (refine ZpQ (c4) ?_) | (with_reducible refine And.intro ?_ ?_)))
         exact ⟨⟨pe,(by simp only [ZpU, *,if_true,if_false]<;>rfl)⟩,hstop.out _ _ e.out (hfl _ _ _ _) (ZpP _ _ _)⟩
 ·have eb:=ZpK xb hr;have fb:=ZpK xb hl0;rw [ZpV _ _ fb.1,ZpV _ _ eb.1]; exact xb
 ·refine ⟨fun i b hb=>?_,ZpP _ _ _,?_,hR2.out⟩
  ·have i1:i ≠ l0:=fun h=>by rw [h,bl] at hb; cases hb
   rw [ZpV _ _ i1];by_cases ir:i=r'
   ·subst ir; rw [hHb,ZpP] at hb; rw [ZpP]; exact hb
   ·rw [ZpV _ _ ir];rw [hHb,ZpV _ _ ir,AH.del_get] at hb;split at hb
    ·cases hb
    ·exact hb
  ·rw [ZpV _ _ f4.1,ZpV _ _ e4.1]; exact q4
 ·rintro B u ⟨hB,hBl,h4,hk⟩;refine ⟨.ready,none,hBl,by simp,?_⟩;rw [← p.all_len 0,Zp9 (ZpY _)] at hk;have hk:R=0:=hk;show ACx _ Znc _ _ _;have k4:(B.del l0) r4=some (.cells 38 [iV 0] 0):=by rw [Zqf _ f4.1]; exact h4
  have kr:(B.del l0) r=some (.obj (.deferred (some []))):=by rw [Zqf _ fr.1]; exact hB _ _ br
  have kr':(B.del l0) r'=some (.obj (.deferred (some []))):=by rw [Zqf _ (Ne.symm hne)]; exact hB _ _ br'
  have hsB:SubH H0 (B.del l0):=(hsb.trans hB).del gl;generalize B.del l0=B2 at *
  delta Znc Zr;refine ZV rfl (fun _ _ _ h=>h) ?_;clear hB hBl h4
  (repeat' (first | (simp only [↓Zz,ZA,ptrV,setAt,JW, *])))
  refine ZlR (r:=r) (r':=r') t4 (ZpP _ _ _) rfl d4r e4.1 er.1 (by simp only [ZpU, *,if_false]<;>rfl) (by simp only [ZpU, *,if_false]<;>rfl) (hsB.of_set g4) gr gr'
 ·rintro k B u ⟨hB,hBl,h4⟩;refine ⟨.done,some .ret,hBl,by simp,?_⟩;show WL Tryz.prog [.cell 4 38] _ t [JM r',JM r] .returning (B.del l0);exact ZlR t4 (by rw [Zqf _ f4.1]; exact h4) rfl d4r e4.1 er.1 (by rw [Zqf _ fr.1]; exact hB _ _ br) (by rw [Zqf _ (Ne.symm hne)]; exact hB _ _ br') ((hsb.trans hB).del gl) gr gr'
theorem ZoV (p:Pa) (l:List Co) (hp:p.sz≤1099511627776) (hl:l.length≤1099511627776) (hnm:∀ x∈p.all 0,x.1.name.size≤1099511627776):PureF Tryz.prog 116 [paV p,cosV l] (iV (paChk l p)):=by
 refine Zp4 fun H0=>?_
 refine ZaE fd116 (by simp) ?_;delta c116 Zj Zi Zr Zb Zo Zg Zm Zd Zq;obtain ⟨R,hR⟩:∃ R,R=paChk l p:=⟨_,rfl⟩
 rw [← hR];replace hR:=ZpM hR
 (repeat' (first | (refine Znq p (fun rb nb=>?_)) | (simp only [↓Wg,↓XM,↓ZfI,↓XZ,↓Zkr,↓Xe,↓Yf,↓Yi,↓Yu,↓Yr,↓XJ,↓Ys,↓XK,↓Yt,↓YS,↓WZ,↓ZC,↓YA,↓YU,↓Wv,↓ZdZ,↓XP,↓XF,ptrV,Zp3,Zqa,Zqb,Zqh,ZqM,Zqw,Zqx,ite_true,ite_false,ZpI,ZpJ,true_and,Zp7,ZD,ZpU,setAt,Zqn,Zqv,Zqo,eq_self,Zp2,ZpL,XT,Zap,XS,YT,ZdB,Zqs,↓Ww,XW,↓Zd3,ZpY,XG,XH,Xr,WP,WQ,undef,WB,Zbw,ZlG,zeroT_3,ZkQ, *]) | (refine ZB fun zr zh=>?_; have zg:=zh; (try simp only [ZpO] at zg))))
 rename_i r2 n2 n2' r3 n3 n3' r4 n4 n4' r5 n5 n5';simp only [ZpO] at nb;have d56:r5 ≠ zr:=fun h=>zg.1.1 h.symm
 have g2:=n2';have g3:=n3'.2;have g4:=n4'.2.2;have g5:=n5'.2.2.2;have g6:=zg.2.2.2.2
 refine ZbF (fun t H=>SubH H0 H∧H r2=some (.cells 74 [bV p.con,sV p.name,encS paE p.kids] 0)∧H r3=some (.cells 41 [cosV l] 0)∧H r4=some (.cells 38 [iV 0] 0)∧H r5=some (.cells 3 [iV 0] 0)∧H zr=some (.cells 3 [iV 0] 0)∧H rb=some (.cells 74 [bV p.con,sV p.name,encS paE p.kids] 0)∧t 2=ptrV r2 0∧t 3=ptrV r3 0∧t 4=ptrV r4 0∧t 5=ptrV r5 0∧t 6=ptrV zr 0∧t 11=.func (.func 141) [] [ptrV rb 0])
  ⟨?_,(by simp only [ZpU, *,if_true,if_false]<;>rfl),(by simp only [ZpU, *,if_true,if_false]<;>rfl),(by simp only [ZpU, *,if_true,if_false]<;>rfl),(by simp only [ZpU, *,if_true,if_false]<;>rfl),(by simp only [ZpU, *,if_true,if_false]<;>rfl),(by simp only [ZpU, *,if_true,if_false]<;>rfl),(by simp only [ZC,ZpI,if_true,if_false, *]<;>rfl),(by simp only [ZC,ZpI,if_true,if_false, *]<;>rfl),(by simp only [ZC,ZpI,if_true,if_false, *]<;>rfl),(by simp only [ZC,ZpI,if_true,if_false, *]<;>rfl),(by simp only [ZC,ZpI,if_true,if_false, *]<;>rfl),(by simp only [ZC,ZpI,if_true,if_false, *]<;>rfl)⟩ ?_
 ·exact (((((((ZpR g2).of_set g3).of_set g4).of_set g5).of_set g6).of_set g5).of_set g6).of_set (by simp only [nb])
 clear nb n2 n2' n3 n3' n4 n4' n5 n5' zg zh;generalize zr=r6 at *
 rintro t Hx ⟨xs,x2,x3,x4,x5,x6,xb,t2,t3,t4,t5,t6,t11⟩;refine Zd2 rfl (.inl t11) (by kernel_rfl) ?_;intro r l0 fn ca cb hca hcb hr hl0 hne hfn;have e5:=ZpK x5 hr;have e6:=ZpK x6 hr;have f5:=ZpK x5 hl0;have f6:=ZpK x6 hl0;obtain ⟨Hb,hHb⟩:∃ Hb,Hb=((Hx.del r5).del r6).set r (.obj (.deferred (some []))):=⟨_,rfl⟩
 have b5:Hb r5=none:=by rw [hHb,ZpV _ _ e5.1,Zqf _ d56,AH.del_same]
 have b6:Hb r6=none:=by rw [hHb,ZpV _ _ e6.1,AH.del_same]
 have bl:Hb l0=none:=by rw [hHb,ZpV _ _ hne,Zqf _ f6.2,Zqf _ f5.2]; exact hl0
 refine allRun (p:=p) (Mut:=fun x=>x=l0∨x=r5∨x=r6) (Inv:=fun k B=>SubH Hb B∧B l0=some (.loop .ready none fn 76 t #[12] ca cb r)∧B r5=some (.cells 3 [iV k] 0)∧B r6=some (.cells 3 [iV (dpL ((p.all 0).take k))] 0)) (Stop:=fun _ _=>False)
  (fun k B B' h hs=>⟨h.1.trans hs,hs _ _ h.2.1,hs _ _ h.2.2.1,hs _ _ h.2.2.2⟩) (fun k B x h hm=>?_) hp ?_ (fun _ _ _=>rfl) rfl rfl (s0:=0) ?_ ?_ ?_ (fun _ _ _ h=>h.elim)
 ·rcases hm with rfl | rfl | rfl
  ·rw [h.2.1]; simp
  ·rw [h.2.2.1]; simp
  ·rw [h.2.2.2]; simp
 ·rintro k hk B ⟨hB,hBl,h5,h6⟩ K' hk1 hk2;have qr:B r=some (.obj (.deferred (some []))):=hB _ _ (by rw [hHb]; exact ZpP _ _ _);refine ZbS (l:=l0) (pe:=none) (fn:=fn) (N:=76) (t:=t) (ps:=#[12]) («asg»:=ca) (bd:=cb) (ds:=r) hBl rfl (by simp) hfn ?_;refine Zha hca ?_
  (repeat' (first | (simp only [↓Zz,ZA,ptrV,ZpI,ZpJ,ZpT,setAt,Zbp,Zkq,Zgu, *]) | (refine ZV rfl (fun _ _ _ h=>h) ?_) | (refine ZB fun zr zh=>?_; have zg:=zh; (try simp only [ZpO] at zg); (try have zn_h5:=ZpK h5 zh); (try have zn_h5:=ZpK h5 zg.2); (try have zn_h5:=ZpK h5 zg.2.2); (try have zn_h6:=ZpK h6 zh); (try have zn_h6:=ZpK h6 zg.2); (try have zn_h6:=ZpK h6 zg.2.2); (try have zn_qr:=ZpK qr zh); (try have zn_qr:=ZpK qr zg.2); (try have zn_qr:=ZpK qr zg.2.2); (try have zn_hBl:=ZpK hBl zh); (try have zn_hBl:=ZpK hBl zg.2); (try have zn_hBl:=ZpK hBl zg.2.2)) | (with_reducible refine And.intro ?_ ?_)))
  ·exact ⟨none,rfl⟩
  ·intro pe;refine Zha hcb (Zms ?_);have dl5:=f5;have z5:=ZpK h5 zh;have z6:=ZpK h6 zh;have zl:=ZpK hBl zh;obtain ⟨B2,hB2⟩:∃ B2,B2=(B.set zr (.cells 241 [bV (p.all 0)[k].fst.con,sV (p.all 0)[k].fst.name,encS paE (p.all 0)[k].fst.kids,iV (p.all 0)[k].snd] 0)).set l0 (.loop .busy pe fn 76 t #[12] ca cb r):=⟨_,rfl⟩
   have c5:B2 r5=some (.cells 3 [iV k] 0):=by rw [hB2]; exact (by simp only [ZpU, *,if_false]<;>rfl)
   have c6:B2 r6=some (.cells 3 [iV (dpL ((p.all 0).take k))] 0):=by rw [hB2]; exact (by simp only [ZpU, *,if_false]<;>rfl)
   have c7:B2 zr=some (.cells 241 [bV (p.all 0)[k].fst.con,sV (p.all 0)[k].fst.name,encS paE (p.all 0)[k].fst.kids,iV (p.all 0)[k].snd] 0):=by rw [hB2]; exact (by simp only [ZpU, *,if_true,if_false]<;>rfl)
   have cl:B2 l0=some (.loop .busy pe fn 76 t #[12] ca cb r):=by rw [hB2]; exact ZpP _ _ _
   have d6:(B2.del r5) r6=some (.cells 3 [iV (dpL ((p.all 0).take k))] 0):=by rw [Zqf _ (Ne.symm d56)]; exact c6
   have d7:(B2.del r5) zr=some (.cells 241 [bV (p.all 0)[k].fst.con,sV (p.all 0)[k].fst.name,encS paE (p.all 0)[k].fst.kids,iV (p.all 0)[k].snd] 0):=by rw [Zqf _ z5.2]; exact c7
   rw [← hB2];replace hB2:=ZpM hB2
   obtain ⟨Hi,i0,i1,i2,i3,i4,i5,i6,i7,i8,hsub,hkeep⟩:∃ Hi:Nat→AH,Hi 0=B2∧Hi 1=B2∧Hi 2=B2.del r5∧Hi 3=B2.del r5∧Hi 4=B2.del r5∧Hi 5=B2.del r5∧Hi 6=B2.del r5∧Hi 7=B2.del r5∧Hi 8=B2.del r5∧(∀ k,SubH (Hi k) B2)∧∀ k∈[2,3,4,5,6,7,8],∀ b,SubH (Hi k) (B2.set r5 b) :=
    ⟨fun i=>if i<2 then B2 else B2.del r5,rfl,rfl,rfl,rfl,rfl,rfl,rfl,rfl,rfl,fun k=>by
      show SubH (if k<2 then B2 else B2.del r5) B2;split
      ·exact ZpN _
      ·intro i b hb; rw [AH.del_get] at hb; split at hb; cases hb; exact hb,fun k hk b=>by
      show SubH (if k<2 then B2 else B2.del r5) _;rw [if_neg (by simp at hk; omega)];intro i b' hb; rw [AH.del_get] at hb; split at hb; cases hb;rw [ZpV _ _ (by assumption)]; exact hb⟩
   refine Zcj mixed (fun _ _ _ _ e h=>⟨e.trans h.1,h.2⟩) Hi hsub ?_;have har:=p.all_around 0 _ (ZpW hk);have hdp:dpL ((p.all 0).take (k+1))=max (dpL ((p.all 0).take k)) ((p.all 0)[k].2+1):=by rw [XB hk,dpL_snoc]
   have hkl:=p.all_len 0;replace hdp:=ZpM hdp;generalize (p.all 0)[k]=x at *
   have w1:IntKind.i64.wrap ((k:Int)+1)=((k+1:Nat):Int):=by rw [ZK (by omega) (by omega)]; simp
   have w2:IntKind.i64.wrap (x.snd+1)=x.snd+1:=ZK (by omega) (by omega);have d65:¬ r6=r5:=Ne.symm d56;clear hkl
   (repeat' (first | (simp only [↓Zz,ZA,ptrV,ZpI,ZpJ,setAt,ZpL,vcMax,forall_const,ZiZ,Zc5,ZfK,Zc6,Zcy,ZoH,ZQ,Zbw, *]) | (with_reducible refine And.intro ?_ ?_)))
   ·exact fun k hk=>hkeep k hk _
   ·have hfin:∀ (v:Int) i b,¬ (i=l0∨i=r5∨i=r6)→B i=some b→(((B2.set r5 (.cells 3 [iV ((k+1:Nat):Int)] 0)).set r6 (.cells 3 [iV v] 0)).set l0 (.loop .ready none fn 76 t #[12] ca cb r)) i=some b:=fun v i b hm hb=>by
     have m1:i ≠ l0:=fun h=>hm (.inl h)
     have m2:i ≠ r5:=fun h=>hm (.inr (.inl h))
     have m3:i ≠ r6:=fun h=>hm (.inr (.inr h))
     rw [ZpV _ _ m1,ZpV _ _ m3,ZpV _ _ m2,hB2.out,ZpV _ _ m1,ZpV _ _ (ZpK hb zh).1];exact hb
    have hmx:(if x.snd+1 > dpL ((p.all 0).take k) then x.snd+1 else dpL ((p.all 0).take k))=dpL ((p.all 0).take (k+1)):=by rw [hdp.out]; split<;>omega
    rw [hmx];refine ⟨⟨pe,(by simp only [ZpU, *,if_false]<;>rfl)⟩,hk1 _ ⟨fun i b hb=>hfin _ i b (fun h=>?_) (hB i b hb),ZpP _ _ _,(by simp only [ZpU, *,if_true,if_false]<;>rfl),(by simp only [ZpU, *,if_true,if_false]<;>rfl)⟩ (fun i b hm hb=>hfin _ i b hm hb)⟩
    ·rcases h with rfl | rfl | rfl
     ·rw [bl] at hb; cases hb
     ·rw [b5] at hb; cases hb
     ·rw [b6] at hb; cases hb
 ·have eb:=ZpK xb hr;have fb:=ZpK xb hl0;rw [ZpV _ _ fb.1,ZpV _ _ eb.1]; exact xb
 ·refine ⟨fun i b hb=>?_,ZpP _ _ _,?_,?_⟩
  ·have i1:i ≠ l0:=fun h=>by rw [h,bl] at hb; cases hb
   rw [ZpV _ _ i1];by_cases ir:i=r
   ·subst ir; rw [hHb,ZpP] at hb; rw [ZpP]; exact hb
   ·rw [ZpV _ _ ir];rw [hHb,ZpV _ _ ir,AH.del_get] at hb;split at hb
    ·cases hb
    ·rw [AH.del_get] at hb;split at hb
     ·cases hb
     ·exact hb
  ·rw [ZpV _ _ f5.1,ZpV _ _ e5.1]; exact x5
  ·rw [ZpV _ _ f6.1,ZpV _ _ e6.1]; exact x6
 ·rintro B u ⟨hB,hBl,h5,h6⟩;refine ⟨.ready,none,hBl,by simp,?_⟩;rw [← p.all_len 0,Zqr (ZpY _)] at h6
  have hsB:∀ i b,H0 i=some b→(B.del l0) i=some b:=fun i b h=>by
   have hx:=xs _ _ h;have i1:i ≠ l0:=fun e=>by rw [e,hl0] at hx; cases hx
   have i2:i ≠ r:=fun e=>by rw [e,hr] at hx; cases hx
   have i3:i ≠ r5:=fun e=>by rw [e,g5] at h; cases h
   have i4:i ≠ r6:=fun e=>by rw [e,g6] at h; cases h
   rw [Zqf _ i1];refine hB _ _ ?_;rw [hHb,ZpV _ _ i2,Zqf _ i4,Zqf _ i3];exact hx
  have hsX:∀ i b,i ≠ r5→i ≠ r6→Hx i=some b→(B.del l0) i=some b:=fun i b i3 i4 hx=>by
   have i1:i ≠ l0:=fun e=>by rw [e,hl0] at hx; cases hx
   have i2:i ≠ r:=fun e=>by rw [e,hr] at hx; cases hx
   rw [Zqf _ i1];refine hB _ _ ?_;rw [hHb,ZpV _ _ i2,Zqf _ i4,Zqf _ i3];exact hx
  have q5:(B.del l0) r5=some (.cells 3 [iV p.sz] 0):=by rw [Zqf _ f5.1]; exact h5
  have q6:(B.del l0) r6=some (.cells 3 [iV (dpL (p.all 0))] 0):=by rw [Zqf _ f6.1]; exact h6
  have qr:(B.del l0) r=some (.obj (.deferred (some []))):=by rw [Zqf _ (Ne.symm hne)]; exact hB _ _ (by rw [hHb]; exact ZpP _ _ _)
  clear h5 h6 hBl;show ACx _ ZkR _ _ _;have y2:∀ r2 e v,Hx r2=some (.cells e v 0)→¬ e=3→r2 ≠ r5∧r2 ≠ r6:=fun r2 e v h he=>⟨fun e'=>by rw [e',x5] at h; simp only [Option.some.injEq,Blk.cells.injEq] at h; exact he h.1.symm,fun e'=>by rw [e',x6] at h; simp only [Option.some.injEq,Blk.cells.injEq] at h; exact he h.1.symm⟩
  exact pcheck2 hp hl hnm hR.out hsB (hsX _ _ (y2 _ _ _ x2 (by decide)).1 (y2 _ _ _ x2 (by decide)).2 x2) (hsX _ _ (y2 _ _ _ x3 (by decide)).1 (y2 _ _ _ x3 (by decide)).2 x3) (hsX _ _ (y2 _ _ _ x4 (by decide)).1 (y2 _ _ _ x4 (by decide)).2 x4) q5 q6 qr g4 (xs.none hr) t2 t3 t4 t5 t6
end Go.PV.YtglpmlbbaedbiaaGreat
end
section
open Go.PV.PureF renaming forget→Zp4
open Go.PV.SubH renaming refl→ZpN
open List renaming drop_eq_getElem_cons→Zql,drop_eq_nil_of_le→Zp9
open Nat renaming reduceLT→ZpJ,reduceEqDiff→ZpI
set_option maxRecDepth 20000
set_option maxHeartbeats 4000000
namespace Go.PV.YtglpmlbbaedbiaaGreat
open Go Go.Proofs
def hasF (l:List ByteArray) (s:ByteArray):Bool:=l.any fun x=>decide (x=s)
theorem JT {l:List ByteArray} {s:ByteArray}:hasF l s=true↔s∈l:=by simp [hasF]
theorem Zd8 {l:List ByteArray} {s:ByteArray} {i:Nat} (h:i<l.length):hasF (l.drop i) s=(decide (l[i]=s) || hasF (l.drop (i+1)) s):=by unfold hasF; rw [Zql h,List.any_cons]
theorem rhas_ok (l:List ByteArray) (s:ByteArray) (hl:l.length≤1099511627776):PureF Tryz.prog 92 [strsV l,sV s] (boolV (hasF l s)):=by
 refine Zp4 fun H=>?_
 refine ZE fd92 (by simp) ?_;delta c92 Zq Zf
 (repeat' (first | (simp only [↓Zz,ZA,boolV,ZpJ,ZD,undef, *])))
 refine ZP (fun _ _ _ h=>h) (fun A H'=>H'=H∧A.d=[]∧A.t 0=strsV l∧A.t 1=sV s∧∃ (i:Nat),i≤l.length∧A.t 5=iV i∧hasF l s=hasF (l.drop i) s)
  (fun A _=>match A.t 5 with | .lit (.int _ i)=>((l.length:Int)-i).toNat | _=>0) ?_ ?_
 ·exact ⟨rfl,rfl,rfl,rfl,0,by omega,rfl,rfl⟩
 ·rintro ⟨t,d⟩ H' ⟨rfl,rfl,h0,h1,i,hi,h5,hh⟩;dsimp only at h0 h1 h5;rw [hh];clear hh;delta b92_1 Za Ze Zn Zr Zk Zb Zq Zm Zc
  (repeat' (first | (simp only [↓Zz,ZA,↓Xw,intV,ZpI,ZpJ,reduceCtorEq,Zcx,ZW,Xy, *]) | (refine ZX ?_ ?_<;>intro) | (refine ZG ?_) | (refine ZV rfl (fun _ _ _ h=>h) ?_) | (exact ZpN _) | (with_reducible refine And.intro ?_ ?_)))
  ·have hlt:i<l.length:=by assumption
   have he:l[i]=s:=by assumption
   rw [Zd8 hlt,decide_eq_true he,Bool.true_or]
  ·have hlt:i<l.length:=by assumption
   have he:¬ l[i]=s:=by assumption
   rw [ZK (n:=(i:Int)+1) (by omega) (by omega)];exact ⟨i+1,by omega,rfl,by rw [Zd8 hlt,decide_eq_false he,Bool.false_or]⟩
  ·rw [ZK (n:=(i:Int)+1) (by omega) (by omega)];omega
  ·rw [Zp9 (by omega)];delta c92_1 Zq
   (repeat' (first | (simp only [↓Zz,ZA,ZpI,ZpJ, *]) | (refine ZG ?_)))
   exact ⟨rfl,ZpN _⟩
end Go.PV.YtglpmlbbaedbiaaGreat
end
section
open Go.PV.AH renaming set_none→ZpO
open Go.PV.Hold renaming mk→ZpM
open Go.PV.PureF renaming forget→Zp4,use→ZpQ
open Go.PV.SubH renaming new→ZpR,of_set→ZpS,none→Zqp,refl→ZpN
open Int renaming reduceNeg→ZqG,reduceEq→Zp5
open List renaming getElem_mem→ZpW,drop→ZpL,drop_eq_nil_of_le→Zp9
open Nat renaming reduceEqDiff→ZpI,reduceLT→ZpJ,reduceAdd→ZpT,lt_or_ge→Zqm
open Option renaming bind_some→Zqg,map_some→Zp6
set_option maxRecDepth 20000
set_option maxHeartbeats 4000000
namespace Go.PV.YtglpmlbbaedbiaaGreat
open Go Go.Proofs
theorem csize_ok (e:Ex):e.sz≤1152921504606846976→PureF Tryz.prog 118 [exV e] (.tuple [iV e.sz,iV e.dp]):=by
 refine Ex.ind (p:=fun e=>e.sz≤1152921504606846976→PureF Tryz.prog 118 [exV e] (.tuple [iV e.sz,iV e.dp])) (fun e ih hs=>?_) e;have hz:=e.sz_eq;have hl:=YN e.kids;have ih':∀ i (h:i<e.kids.length),PureF Tryz.prog 118 [exV e.kids[i]] (.tuple [iV e.kids[i].sz,iV e.kids[i].dp]):=fun i h=>ih _ (ZpW h) (by have:=Ya (ZpW h); omega)
 clear ih;refine Zp4 fun H=>?_
 refine ZE fd118 (by simp) ?_;delta c118 Zj Zf Zd Zb Ze Zq;obtain ⟨N,D,hN,hD,hNs,hlN⟩:∃ N D,e.sz=N∧e.dp=D∧N≤1152921504606846976∧e.kids.length≤N:=⟨_,_,rfl,rfl,hs,by omega⟩
 have hDN:D≤N:=by have:=e.dp_le; omega
 have h0:1+exsSz e.kids=N:=by omega
 have h1:exsDp e.kids+1=D:=by rw [← hD,e.dp_eq]
 rw [hN,hD];clear hs hl hz hN hD
 (repeat' (first | (simp only [↓Zz,ZA,ptrV,intV,ZpI,ZpJ,reduceCtorEq,ZD,ZpL,undef,Yk,Xa,Yx, *]) | (refine ZB fun zr zh=>?_; have zg:=zh; (try simp only [ZpO] at zg))))
 refine ZP (fun _ _ _ h=>h) (fun A H'=>SubH H H'∧A.d=[]∧A.t 9=exsV e.kids∧A.t 10=iV e.kids.length∧∃ (i n d:Nat),i≤e.kids.length∧A.t 11=iV i∧A.t 2=iV n∧A.t 3=iV d∧n+exsSz (e.kids.drop i)=N∧max d (exsDp (e.kids.drop i))+1=D)
  (fun A _=>match A.t 11 with | .lit (.int _ i)=>((e.kids.length:Int)-i).toNat | _=>0) ?_ ?_
 ·exact ⟨ZpR zh,rfl,rfl,rfl,0,1,0,by omega,rfl,rfl,rfl,h0,by simpa using h1⟩
 ·clear h0 h1;rintro ⟨t,d⟩ H' ⟨hs',rfl,h9,h10,i,n,d,hi,h6,h4,h5,hn,hdd⟩;dsimp only at h9 h10 h4 h5 h6;delta b118_1 Zn Zr Zk Zb Zi Zg Zo Za Zh Zc Zq Zm
  (repeat' (first | (simp only [↓Zz,ZA,ZI,ptrV,ZpI,ZpJ,ZpT,setAt,ZpL,vcMax,XI,YZ,Zbh,Wj,Yx,Zm7, *]) | (refine ZX ?_ ?_<;>intro) | (refine ZV rfl (fun _ _ _ h=>h) ?_) | (refine ZB fun zr zh=>?_; have zg:=zh; (try simp only [ZpO] at zg)) | (refine ZpS ?_ ?_) | (exact Zqp (by assumption) (by assumption)) | (refine ZpQ (ih' _ (by assumption)) ?_) | (with_reducible refine And.intro ?_ ?_)))
  ·rename_i hlt;have e1:=ZcS hlt;rw [ZK (n:=(i:Int)+1) (by omega) (by omega),ZK (n:=(n:Int)+(e.kids[i].sz:Int)) (by omega) (by omega)];exact ⟨i+1,n+e.kids[i].sz,max d e.kids[i].dp,by omega,rfl,by simp,by simp; split<;>omega,by omega,by rw [ZcT hlt] at hdd; omega⟩
  ·rename_i hlt;rw [ZK (n:=(i:Int)+1) (by omega) (by omega)];omega
  ·rename_i hlt;rw [Zp9 (by omega)] at hn hdd;delta c118_1 Za Zm Zc;have hn':N=n:=by simpa [exsSz] using hn.symm
   have hd':D=d+1:=by simpa [exsDp] using hdd.symm
   subst hn'; subst hd'
   (repeat' (first | (simp only [↓Zz,ZA,ZpI,ZpJ, *])))
   rw [ZK (n:=(d:Int)+1) (by omega) (by omega)];exact Yo rfl (by simp only [resV,YY,YX,ZC,ZpI,if_true,if_false,Zqg,Zp6,tupV, *]<;>rfl) ⟨rfl,hs'⟩
theorem ZoW (l:List ByteArray) (s:ByteArray) (hl:l.length≤1099511627776):PureF Tryz.prog 121 [strsV l,sV s] (iV (idxF (fun x=>decide (s=x)) l)):=by
 refine Zp4 fun H=>?_
 refine ZE fd121 (by simp) ?_;delta c121 Zf Za Ze Zq
 (repeat' (first | (simp only [↓Zz,ZA,intV,ZpI,ZpJ,reduceCtorEq,ZD,undef,Xy, *])))
 refine ZP (fun _ _ _ h=>h) (fun A H'=>H'=H∧A.d=[]∧A.t 0=strsV l∧A.t 1=sV s∧A.t 7=iV l.length∧∃ i:Nat,i≤l.length∧A.t 8=iV i∧∀ j (h:j<l.length),j<i→decide (s=l[j])=false)
  (fun A _=>match A.t 8 with | .lit (.int _ i)=>((l.length:Int)-i).toNat | _=>0) ?_ ?_
 ·exact ⟨rfl,rfl,rfl,rfl,rfl,0,by simp,rfl,by simp⟩
 ·rintro ⟨t,d⟩ H' ⟨rfl,rfl,h0,h1,h7,i,hi,h8,hj⟩;dsimp only at h0 h1 h7 h8;replace hj:=ZpM hj;delta b121_1 Zn Zr Za Zc Zk Zb Zm;by_cases hlt:i<l.length
  ·have hil:(i:Int)<(l.length:Int):=by omega
   have hdi:=Zcx hlt
   (repeat' (first | (simp only [↓Zz,ZA,↓Xw,ZpI,ZpJ,reduceCtorEq,ZW,Xy, *]) | (refine ZX ?_ ?_<;>intro) | (refine ZG ?_) | (exact ZpN _) | (with_reducible refine And.intro ?_ ?_)))
   ·have hs:s=l[i]:=by assumption
    rw [Jo (p:=fun x=>decide (l[i]=x)) hlt (decide_eq_true rfl) (fun j h=>by have:=hj.out j (by omega) h; rw [hs] at this; exact this)]
   ·rw [ZK (by omega) (by omega)];refine ⟨i+1,by omega,by simp,fun j h h'=>?_⟩;rcases Zqm j i with h2 | h2
    ·exact hj.out j h h2
    ·obtain rfl:j=i:=by omega
     exact decide_eq_false (by assumption)
   ·rw [ZK (by omega) (by omega)];omega
  ·have hil:¬ (i:Int)<(l.length:Int):=by omega
   have hno:idxF (fun x=>decide (s=x)) l = -1:=Zai fun j h=>hj.out j h (by omega)
   (repeat' (first | (simp only [↓Zz,ZA,ZpJ,ZqG, *]) | (refine ZV rfl (fun _ _ _ h=>h) ?_)))
   delta c121_1 Zq
   (repeat' (first | (simp only [↓Zz,ZA,ZpI,ZpJ,ZqG, *]) | (refine ZG ?_) | (exact ZpN _)))
theorem Zjz (l:List ByteArray) (s:ByteArray) (hl:l.length≤1099511627776):PureF Tryz.prog 81 [strsV l,sV s] (boolV (hasF l s)):=by
 have hi:=ZoW l s hl
 have e:decide (0≤idxF (fun x=>decide (s=x)) l)=hasF l s:=by
  rw [ZlL,hasF]
  congr 1
  funext x
  exact decide_eq_decide.2 ⟨Eq.symm,Eq.symm⟩
 rw [← e];refine Zp4 fun H=>?_
 refine ZE fd81 (by simp) ?_;delta c81 Zq Za Zo Zr Zm Zc;clear e
 (repeat' (first | (simp only [↓Zz,ZA,boolV,ZpI,ZpJ,reduceCtorEq,ZD,undef,en_121, *]) | (refine ZG ?_) | (exact ZpN _) | (refine ZpQ (hi) ?_)))
def misF (e:Ex):Bool :=
 if e.op=1∨e.op=2 then decide (0<(e.kids.length:Int)) || !nameB e.name
 else if e.op=3 then !nameB e.name
 else if e.op=4 then decide ((e.kids.length:Int)<2) || !decide (e.name={ data:=#[] })
 else if e.op=5 then !decide ((e.kids.length:Int)=1) || !nameB e.name
 else true
theorem Zj8 (e:Ex) (hn:e.name.size≤1099511627776):PureF Tryz.prog 139 [exV e] (boolV (misF e)):=by
 have hc:=Zd6 e.name hn;refine Zp4 fun H=>?_
 refine ZE fd139 (by simp) ?_;delta c139 Zj Zq Zd Zb Ze Zc Zm Zr Za Zp Zo;unfold misF;generalize nameB e.name=nb at *
 (repeat' (first | (simp only [↓Zz,ZA,↓XE,ptrV,intV,boolV,ZpI,ZpJ,Bool.true_or,Bool.false_or,reduceCtorEq,ZN,ZD,ZpL,undef,Zp5,Yk,Yg,Ym,Xa,ZQ,ZW,Yx,ZfT, *]) | (refine YW ?_ ?_<;>intro) | (refine ZX ?_ ?_<;>intro) | (refine Zet ?_ ?_<;>intro) | (refine ZG ?_) | (refine ZB fun zr zh=>?_; have zg:=zh; (try simp only [ZpO] at zg)) | (exact ZpN _) | (refine ZpS ?_ ?_) | (refine ZpQ (hc) ?_) | (with_reducible refine And.intro ?_ ?_)))
 all_goals (clear hc; simp [*])
end Go.PV.YtglpmlbbaedbiaaGreat
end
section
open Go.PV.AH renaming set_none→ZpO,ne_of→ZpK,set_ne→ZpV,set_same→ZpP
open Go.PV.Hold renaming mk→ZpM
open Go.PV.SubH renaming new→ZpR,refl→ZpN
open List renaming length_drop→ZqO,length_append→Zqt,drop_eq_getElem_cons→Zql,drop→ZpL,getElem_mem→ZpW,take_of_length_le→Zqr
open Nat renaming reduceEqDiff→ZpI,reduceLT→ZpJ,reduceAdd→ZpT,reduceLeDiff→Zp1,le_refl→ZpY,lt_succ_self→ZqK,zero_add→Zp2
set_option maxRecDepth 20000
set_option maxHeartbeats 4000000
namespace Go.PV.YtglpmlbbaedbiaaGreat
open Go Go.Proofs
section
variable {y:VV} {ry rw sp sp':Nat} {L:List Pl} {Inv:Nat→AH→AH→Prop} {Stop:Nat→AH→Prop}
theorem walk2 (hsub:∀ k Hb B,Inv k Hb B→SubH Hb B) (hal:∀ k Hb B z b,Inv k Hb B→B z=none→Inv k (Hb.set z b) (B.set z b))
 (hy:∀ k (h:k<L.length) Hb B,Inv k Hb B→∀ K':VE→AH→Prop,(∀ B',Inv (k+1) Hb B'→K' (.ret (boolV true)) B')→(∀ B',Stop k B'→K' (.ret (boolV false)) B')→ACall Tryz.prog none y [plV L[k]] B K')
 (hyl:∀ B xs K',WJ Tryz.prog none y xs B K'=ACall Tryz.prog none y xs B K') :
 ∀ (n:Nat) (p:Pa) (a:Int) (k:Nat) (M:List Pl) (Hb B:AH) (K:VE→AH→Prop),p.sz<n→L.drop k=p.all a++M→p.sz≤1099511627776→0≤a→a+p.sz≤2199023255552→Inv k Hb B →
 Hb ry=some (.cells 245 [y] sp)→Hb rw=some (.cells 246 [.func (.func 142) [] [ptrV ry 0,ptrV rw 0]] sp') →
 (∀ Hb' B',Inv (k+p.sz) Hb' B'→SubH Hb Hb'→K (.ret (boolV true)) B')→(∀ j B',Stop j B'→K (.ret (boolV false)) B')→ZT Tryz.prog 142 [paV p,iV a,ptrV ry 0,ptrV rw 0] B K:=by
 intro n
 induction n with
 | zero=>intro p a k M Hb B K h; omega
 | succ n ih =>
   intro p a k M Hb B K h0 hL hs ha0 ha hI by0 bw0 hT hF;have hsI:=hsub _ _ _ hI;have by_:=hsI _ _ by0;have bw:=hsI _ _ bw0;refine ZE fd142 (by simp) ?_;delta c142 Zj Zq Zb Zr Za Zp Zc
   have hk:k<L.length:=by
    have:=congrArg List.length hL
    rw [ZqO,Zqt,p.all_len] at this
    have:=p.sz_pos
    omega
   have hLk:L[k]=(p,a):=by
    rw [Zql hk,p.all_eq] at hL;exact (List.cons.inj hL).1
   have hyk:=hy k hk;rw [hLk] at hyk;clear hLk hk;replace hT:=ZpM hT;replace hF:=ZpM hF;replace hL:=ZpM hL
   (repeat' (first | (simp only [↓Zz,ZA,ptrV,ZpI,ZpJ,ZpT,Zp1,ZD,ZM,fillV,setAt,ZpL,undef,ZM,ZnQ,WB,ZQ,ZnR, *]) | (refine ZB fun zr zh=>?_; have zg:=zh; (try simp only [ZpO] at zg); (try have zn_by_:=ZpK by_ zh); (try have zn_by_:=ZpK by_ zg.2); (try have zn_by_:=ZpK by_ zg.2.2); (try have zn_bw:=ZpK bw zh); (try have zn_bw:=ZpK bw zg.2); (try have zn_bw:=ZpK bw zg.2.2))))
   rename_i r4 n4 n4' zz1 zz2;have hI1:=hal _ _ _ zr (.cells 3 [iV a] 0) (hal _ _ _ r4 (.cells 74 [bV p.con,sV p.name,encS paE p.kids] 0) hI n4) zh;have hb4:Hb r4=none:=hsI.none n4;have hb5:Hb zr=none:=hsI.none zg.2;have d45:¬ r4=zr:=zg.1.2;obtain ⟨Hc,hHc⟩:∃ Hc,Hc=(Hb.set r4 (.cells 74 [bV p.con,sV p.name,encS paE p.kids] 0)).set zr (.cells 3 [iV a] 0):=⟨_,rfl⟩
   have hbc:SubH Hb Hc:=by rw [hHc]; exact (ZpR hb4).of_set hb5
   have x4:Hc r4=some (.cells 74 [bV p.con,sV p.name,encS paE p.kids] 0):=by rw [hHc,ZpV _ _ d45]; exact ZpP _ _ _
   have x5:Hc zr=some (.cells 3 [iV a] 0):=by rw [hHc]; exact ZpP _ _ _
   have xy:=hbc _ _ by0;have xw:=hbc _ _ bw0;rw [← hHc] at hI1;show ACall Tryz.prog none y _ ((B.set r4 (.cells 74 [bV p.con,sV p.name,encS paE p.kids] 0)).set zr (.cells 3 [iV a] 0)) _;generalize (B.set r4 (.cells 74 [bV p.con,sV p.name,encS paE p.kids] 0)).set zr (.cells 3 [iV a] 0)=B1 at *
   refine hyk Hc B1 hI1 _ (fun B' hB=>?_) (fun B' hB=>?_)
   ·have hsB:=hsub _ _ _ hB;have q4:=hsB _ _ x4;have q5:=hsB _ _ x5;have qy:=hsB _ _ xy;have qw:=hsB _ _ xw
    have hw:∀ (K':VE→AH→Prop),(∀ Hd B'',Inv (k+p.sz) Hd B''→SubH Hc Hd→K' (.ret (boolV false)) B'')→(∀ j B'',Stop j B''→K' (.ret (boolV true)) B'')→ZT Tryz.prog 143 [pasV p.kids,.func (.func 144) [] [ptrV rw 0,ptrV zr 0]] B' K':=fun K' k1 k2=>by
     have hpz:=p.sz_eq;have hpl:=XY p.kids;refine hasPaS (J:=fun i C=>∃ Hd,Inv (k+1+pasSz (p.kids.take i)) Hd C∧SubH Hc Hd) (St:=fun C=>∃ j,Stop j C) (by omega) ⟨Hc,by simpa [pasSz] using hB,ZpN _⟩ (fun i h C hC K'' h1 h2=>⟨Znb,?_⟩) (fun C hC=>?_) (fun C hC=>hC.elim fun j hj=>k2 j C hj)
     ·obtain ⟨Hd,hC1,hC2⟩:=hC;have hsC:=hsub _ _ _ hC1;have c5:=hsC _ _ (hC2 _ _ x5);have cw:=hsC _ _ (hC2 _ _ xw);have hik:=ih p.kids[i] (a+1) (k+1+pasSz (p.kids.take i)) (XO (p.kids.drop (i+1)) (a+1)++M);have hdk:=Zjx hL.out h;have hks:=Xm (ZpW h);have hkd:=Zd7 h;refine ZE fd144 (by simp) ?_;delta c144 Zj Zq Zb Zm Zr Zc;have hwa:IntKind.i64.wrap (a+1)=a+1:=ZK (by omega) (by omega);replace hdk:=ZpM hdk;replace hkd:=ZpM hkd;replace h1:=ZpM h1;replace h2:=ZpM h2;clear hT hF k1 k2 hL hyk
      (repeat' (first | (simp only [↓Zz,ZA,ptrV,ZpI,ZpJ,ZD,ZpL,undef,Zhy,WB,ZQ, *]) | (refine ZB fun zr zh=>?_; have zg:=zh; (try simp only [ZpO] at zg); (try have zn_c5:=ZpK c5 zh); (try have zn_c5:=ZpK c5 zg.2); (try have zn_c5:=ZpK c5 zg.2.2); (try have zn_cw:=ZpK cw zh); (try have zn_cw:=ZpK cw zg.2); (try have zn_cw:=ZpK cw zg.2.2)) | (with_reducible refine And.intro ?_ ?_)))
      ·exact ZiV
      ·have hIC:=hal _ _ _ zr (.cells 74 [bV p.kids[i].con,sV p.kids[i].name,encS paE p.kids[i].kids] 0) hC1 zh;have hsd:SubH Hd (Hd.set zr (.cells 74 [bV p.kids[i].con,sV p.kids[i].name,encS paE p.kids[i].kids] 0)):=ZpR (hsC.none zh);refine hik _ _ _ (by omega) hdk.out (by omega) (by omega) (by omega) hIC (hsd _ _ (hC2 _ _ xy)) (hsd _ _ (hC2 _ _ xw)) (fun Hd2 B2 hB2 hk2=>?_) (fun j B2 hB2=>?_)
       ·(repeat' (first | (simp only [↓Zz,ZA,boolV,ZpI,ZpJ, *]) | (refine ZG ?_)))
        refine h1.out _ ⟨Hd2,?_,hC2.trans (hsd.trans hk2)⟩;rw [hkd.out,← Nat.add_assoc];exact hB2
       ·(repeat' (first | (simp only [↓Zz,ZA,boolV,ZpI,ZpJ, *]) | (refine ZG ?_)))
        exact h2.out _ ⟨j,hB2⟩
     ·obtain ⟨Hd,hC1,hC2⟩:=hC;rw [Zqr (ZpY _)] at hC1;refine k1 Hd C ?_ hC2;rw [hpz,show k+(1+pasSz p.kids)=k+1+pasSz p.kids from by omega];exact hC1
    clear hyk hL
    (repeat' (first | (simp only [↓Zz,ZA,boolV,ZpI,ZpJ,ZpL,JR,ZaD,ZiW, *]) | (refine ZG ?_) | (refine hw _ (fun Hd B2 hB2 hk2=>?_) (fun j B2 hB2=>?_))))
    ·exact hT.out _ _ hB2 (hbc.trans hk2)
    ·exact hF.out _ _ hB2
   ·(repeat' (first | (simp only [↓Zz,ZA,boolV,ZpI,ZpJ,ZN,ZD,undef,ZiW, *]) | (refine ZG ?_)))
    exact hF.out _ _ hB
theorem allRun2 {p:Pa} {rb s0:Nat} {Hb H:AH} {K:VE→AH→Prop} (hsub:∀ k Hb B,Inv k Hb B→SubH Hb B) (hal:∀ k Hb B z b,Inv k Hb B→B z=none→Inv k (Hb.set z b) (B.set z b)) (hs:p.sz≤1099511627776)
 (hy:∀ k (h:k<(p.all 0).length) Hb B,Inv k Hb B→∀ K':VE→AH→Prop,(∀ B',Inv (k+1) Hb B'→K' (.ret (boolV true)) B')→(∀ B',Stop k B'→K' (.ret (boolV false)) B')→ACall Tryz.prog none y [plV (p.all 0)[k]] B K')
 (hyl:∀ B xs K',WJ Tryz.prog none y xs B K'=ACall Tryz.prog none y xs B K') (hone:VV.one y=true) (hyc:y.cells=[y])
 (hrb:H rb=some (.cells 74 [bV p.con,sV p.name,encS paE p.kids] s0)) (hI:Inv 0 Hb H)
 (hEnd:∀ Hb' B u,Inv p.sz Hb' B→SubH Hb Hb'→K (.ret u) B) (hStop:∀ j B u,Stop j B→K (.ret u) B):ZT Tryz.prog 141 [y,ptrV rb 0] H K:=by
 have hw:=fun (ry rw sp sp':Nat)=>walk2 (ry:=ry) (rw:=rw) (sp:=sp) (sp':=sp') (L:=p.all 0) hsub hal hy hyl (p.sz+1) p 0 0 []
 refine ZE fd141 (by simp) ?_;delta c141 Zj Zi Zq Zr Zg Zb;replace hEnd:=ZpM hEnd;replace hStop:=ZpM hStop;clear hy
 (repeat' (first | (simp only [↓Zz,ZA,ptrV,ZpI,ZpJ,ZD,setAt,ZpL,Zn1,Zn2,undef,Zhy,WB,ZnP,Zjn,ZiV, *]) | (refine ZB fun zr zh=>?_; have zg:=zh; (try simp only [ZpO] at zg); (try have zn_hrb:=ZpK hrb zh); (try have zn_hrb:=ZpK hrb zg.2); (try have zn_hrb:=ZpK hrb zg.2.2))))
 rename_i ry ny ny' nq;have hI1:=hal _ _ _ zr (.cells 246 [.func (.func 142) [] [ptrV ry 0,ptrV zr 0]] 0) (hal _ _ _ ry (.cells 245 [y] 0) hI ny) zh;have hsI:=hsub _ _ _ hI;have hbc:SubH Hb ((Hb.set ry (.cells 245 [y] 0)).set zr (.cells 246 [.func (.func 142) [] [ptrV ry 0,ptrV zr 0]] 0)):=(ZpR (hsI.none ny)).of_set (hsI.none zg.2);refine hw ry zr 0 0 _ _ _ (ZqK _) (by simp) hs (by omega) (by omega) hI1 (by rw [ZpV _ _ (fun e=>zg.1.1 e.symm)]; exact ZpP _ _ _) (ZpP _ _ _) (fun Hd B hB hd=>?_) (fun j B hB=>?_)
 ·rw [Zp2] at hB
  (repeat' (first | (simp only [↓Zz,boolV, *])))
  exact ⟨rfl,_,B,_,rfl,.refl _ _,hEnd.out _ B _ hB (hbc.trans hd)⟩
 ·(repeat' (first | (simp only [↓Zz,boolV, *])))
  exact ⟨rfl,_,B,_,rfl,.refl _ _,hStop.out j B _ hB⟩
end
end Go.PV.YtglpmlbbaedbiaaGreat
end
