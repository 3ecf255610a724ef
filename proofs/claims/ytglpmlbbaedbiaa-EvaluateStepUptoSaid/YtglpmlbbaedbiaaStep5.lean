/- Part 5 of 11 of what the proof of Step needs. -/
import Derived.Test.YtglpmlbbaedbiaaStep4
import Derived.StringKeys
import Derived.OpenShut
import Derived.Handed
import Derived.JoinedOf
import Derived.Carry
import Derived.JoinedCond
import Derived.Test.YtglpmlbbaedbiaaRows
set_option linter.unusedVariables false
set_option linter.unusedSimpArgs false
set_option linter.defProp false
section
open Go.PV.AH renaming set_none→Zpb,set_same→Zpc
open Go.PV.PureF renaming forget→ZpF,use→Zpe
open Go.PV.SubH renaming new→Zph,of_set→Zpi
open List renaming drop_eq_getElem_cons→ZpI,getElem_mem→Zpk,drop→Zo9,drop_eq_nil_of_le→ZpC
open Nat renaming reduceLT→Zo7,reduceEqDiff→Zo5,reduceAdd→Zpd
open Option renaming bind_some→ZpH,map_some→Zps
set_option maxRecDepth 20000
set_option maxHeartbeats 4000000
namespace Go.PV.Ytglpmlbbaedbiaa
open Go Go.Proofs
theorem Zed {l:List Ex} {i:Nat} (h:i<l.length):exsSz (l.drop i)=l[i].sz+exsSz (l.drop (i+1)):=by rw [ZpI h,exsSz]
theorem Zee {l:List Ex} {i:Nat} (h:i<l.length):exsDp (l.drop i)=max l[i].dp (exsDp (l.drop (i+1))):=by rw [ZpI h,exsDp]
theorem Zcb {l:List Pa} {i:Nat} (h:i<l.length):pasSz (l.drop i)=l[i].sz+pasSz (l.drop (i+1)):=by rw [ZpI h,pasSz]
theorem size_ok (e:Ex):e.sz≤1152921504606846976→PureF Try.prog 29 [exV e] (.tuple [iV e.sz,iV e.dp]):=by
 refine Ex.ind (p:=fun e=>e.sz≤1152921504606846976→PureF Try.prog 29 [exV e] (.tuple [iV e.sz,iV e.dp])) (fun e ih hs=>?_) e;have hz:=e.sz_eq;have hl:=YL e.kids;have ih':∀ i (h:i<e.kids.length),PureF Try.prog 29 [exV e.kids[i]] (.tuple [iV e.kids[i].sz,iV e.kids[i].dp]):=fun i h=>ih _ (Zpk h) (by have:=ZX (Zpk h); omega)
 clear ih;refine ZpF fun H=>?_
 refine ZK fd29 (by simp) ?_;delta c29 Zj Zf;obtain ⟨N,D,hN,hD,hNs,hlN⟩:∃ N D,e.sz=N∧e.dp=D∧N≤1152921504606846976∧e.kids.length≤N:=⟨_,_,rfl,rfl,hs,by omega⟩
 have hDN:D≤N:=by have:=e.dp_le; omega
 have h0:1+exsSz e.kids=N:=by omega
 have h1:exsDp e.kids+1=D:=by rw [← hD,e.dp_eq]
 rw [hN,hD];clear hs hl hz hN hD
 (repeat' (first | (simp only [↓ZF,ZG,ptrV,Zo7,ZJ,undef, *]) | (refine ZH fun zr zh=>?_; have zg:=zh; (try simp only [Zpb] at zg))))
 refine ZY (fun _ _ _ h=>h) (fun A H'=>SubH H H'∧A.d=[]∧A.t 1=ptrV zr 0∧∃ (i n d sp:Nat),H' zr=some (.cells 28 [iV e.op,sV e.name,encS exE e.kids] sp)∧i≤e.kids.length∧A.t 6=iV i∧A.t 4=iV n∧A.t 5=iV d∧n+exsSz (e.kids.drop i)=N∧max d (exsDp (e.kids.drop i))+1=D)
  (fun A _=>match A.t 6 with | .lit (.int _ i)=>((e.kids.length:Int)-i).toNat | _=>0) ?_ ?_
 ·exact ⟨Zph zh,rfl,rfl,0,1,0,0,Zpc _ _ _,by omega,rfl,rfl,rfl,h0,by simpa using h1⟩
 ·clear h0 h1;rintro ⟨t,d⟩ H' ⟨hs',rfl,h1,i,n,d,sp,k1,hi,h6,h4,h5,hn,hdd⟩;dsimp only at h1 h4 h5 h6;delta b29_1 Za Zd Zb Ze Zn Zr Zk Zo Zh Zc Zq Zm
  (repeat' (first | (simp only [↓ZF,ZG,ZP,ptrV,intV,Zo5,Zo7,reduceCtorEq,Zo9,vcMax,WL,Zla,ldT_25,ZbK,ZmH,en_29, *]) | (refine Yf ?_ ?_<;>intro) | (refine Ya rfl (fun _ _ _ h=>h) ?_) | (refine Zpe (ih' _ (by assumption)) ?_) | (with_reducible refine And.intro ?_ ?_)))
  ·rename_i hlt;have e1:=Zed hlt;rw [ZO (n:=(i:Int)+1) (by omega) (by omega),ZO (n:=(n:Int)+(e.kids[i].sz:Int)) (by omega) (by omega)];exact ⟨i+1,n+e.kids[i].sz,max d e.kids[i].dp,sp,rfl,by omega,rfl,by simp,by simp; split<;>omega,by omega,by rw [Zee hlt] at hdd; omega⟩
  ·rename_i hlt;rw [ZO (n:=(i:Int)+1) (by omega) (by omega)];omega
  ·rename_i hlt;rw [ZpC (by omega)] at hn hdd;delta c29_1 Za Zm Zc;have hn':N=n:=by simpa [exsSz] using hn.symm
   have hd':D=d+1:=by simpa [exsDp] using hdd.symm
   subst hn'; subst hd'
   (repeat' (first | (simp only [↓ZF,ZG,Zo5,Zo7, *])))
   rw [ZO (n:=(d:Int)+1) (by omega) (by omega)];exact YD rfl (by simp only [resV,Xi,Xh,ZI,Zo5,if_true,if_false,ZpH,Zps,tupV, *]<;>rfl) ⟨rfl,hs'⟩
theorem Zlj (e:Ex) (h:e.sz≤1152921504606846976):PureF Try.prog 8 [exV e] (.tuple [iV e.sz,iV e.dp]):=by
 refine ZpF fun H=>?_
 refine ZK fd8 (by simp) ?_;delta c8 Zj Zf Zb Zo Zr Zh Zc
 (repeat' (first | (simp only [↓ZF,ZG,ZP,ptrV,Zo5,Zo7,ZJ,Zo9,undef,ZbK,en_29, *]) | (refine ZH fun zr zh=>?_; have zg:=zh; (try simp only [Zpb] at zg)) | (refine Zpe (size_ok _ h) ?_)))
 exact YD rfl (by simp only [resV,Xi,Xh,ZI,Zo5,if_true,if_false,ZpH,Zps,tupV, *]<;>rfl) ⟨rfl,Zph zh⟩
theorem Zog (e:Pa):e.sz≤1152921504606846976→PureF Try.prog 15 [paV e] (iV e.sz):=by
 refine Pa.ind (p:=fun e=>e.sz≤1152921504606846976→PureF Try.prog 15 [paV e] (iV e.sz)) (fun e ih hs=>?_) e;have hz:=e.sz_eq;have hl:=XG e.kids;have ih':∀ i (h:i<e.kids.length),PureF Try.prog 15 [paV e.kids[i]] (iV e.kids[i].sz):=fun i h=>ih _ (Zpk h) (by have:=Xd (Zpk h); omega)
 clear ih;refine ZpF fun H=>?_
 refine ZK fd15 (by simp) ?_;delta c15 Zj Zf Zd Zb Ze Zq;obtain ⟨N,hN,hNs,hlN⟩:∃ N,e.sz=N∧N≤1152921504606846976∧e.kids.length≤N:=⟨_,rfl,hs,by omega⟩
 have h0:1+pasSz e.kids=N:=by omega
 rw [hN];clear hs hl hz hN
 (repeat' (first | (simp only [↓ZF,ZG,ptrV,intV,Zo5,Zo7,reduceCtorEq,ZJ,Zo9,undef,Zk9,Zkc,Zdt, *]) | (refine ZH fun zr zh=>?_; have zg:=zh; (try simp only [Zpb] at zg))))
 refine ZY (fun _ _ _ h=>h) (fun A H'=>SubH H H'∧A.d=[]∧A.t 7=encS paE e.kids∧A.t 8=iV e.kids.length∧∃ (i n:Nat),i≤e.kids.length∧A.t 9=iV i∧A.t 3=iV n∧n+pasSz (e.kids.drop i)=N)
  (fun A _=>match A.t 9 with | .lit (.int _ i)=>((e.kids.length:Int)-i).toNat | _=>0) ?_ ?_
 ·exact ⟨Zph zh,rfl,rfl,rfl,0,1,by omega,rfl,rfl,h0⟩
 ·clear h0;rintro ⟨t,d⟩ H' ⟨hs',rfl,h7,h8,i,n,hi,h9,h3,hn⟩;dsimp only at h7 h8 h9 h3;delta b15_1 Zn Zr Zk Zb Zi Zg Za Zo Zc Zm
  (repeat' (first | (simp only [↓ZF,ZG,ptrV,Zo5,Zo7,Zpd,setAt,Zo9,WM,Zkb,Zkd,Ze0,Zdt,en_15, *]) | (refine Yf ?_ ?_<;>intro) | (refine Ya rfl (fun _ _ _ h=>h) ?_) | (refine ZH fun zr zh=>?_; have zg:=zh; (try simp only [Zpb] at zg)) | (refine Zpi ?_ ?_) | (exact SubH.none (by assumption) (by assumption)) | (refine Zpe (ih' _ (by assumption)) ?_) | (with_reducible refine And.intro ?_ ?_)))
  ·rename_i hlt;have e1:=Zcb hlt;rw [ZO (n:=(i:Int)+1) (by omega) (by omega),ZO (n:=(n:Int)+(e.kids[i].sz:Int)) (by omega) (by omega)];exact ⟨i+1,n+e.kids[i].sz,by omega,rfl,by simp,by omega⟩
  ·rename_i hlt;rw [ZO (n:=(i:Int)+1) (by omega) (by omega)];omega
  ·rename_i hlt;rw [ZpC (by omega)] at hn;delta c15_1 Za Zc;have hn':N=n:=by simpa [pasSz] using hn.symm
   subst hn'
   (repeat' (first | (simp only [↓ZF,ZG,Zo5,Zo7, *]) | (refine ZM ?_)))
end Go.PV.Ytglpmlbbaedbiaa
end
section
open Go.PV.AH renaming set_none→Zpb,set_same→Zpc,get→Zpf,ne_of→Zo6
open Go.PV.PureF renaming use→Zpe
open Go.PV.SubH renaming new→Zph,refl→Zpa
open List renaming append_nil→Zp2,getElem_mem→Zpk,drop→Zo9,take_of_length_le→ZpD,drop_zero→ZpV
open Nat renaming reduceEqDiff→Zo5,reduceLT→Zo7,reduceAdd→Zpd,reduceLeDiff→Zpo,reduceMul→ZpQ,le_refl→Zpl
set_option maxRecDepth 20000
set_option maxHeartbeats 4000000
namespace Go.PV.Ytglpmlbbaedbiaa
open Go Go.Proofs
theorem ZjT {l:List Ex} {i:Nat} (h:i<l.length):encC exE (l.take (i+1))=encC exE (l.take i)++[iV l[i].op,sV l[i].name,encS exE l[i].kids]:=by
 rw [YM h,Yu]; simp only [Yh,Ze6,Zp2,WU]
theorem Zlk (e:Ex):e.sz≤1099511627776→PureF Try.prog 18 [exV e] (exV e):=by
 refine Ex.ind (p:=fun e=>e.sz≤1099511627776→PureF Try.prog 18 [exV e] (exV e)) (fun e ih hs=>?_) e;have hl:=YL e.kids;have ih':∀ i (h:i<e.kids.length),PureF Try.prog 18 [exV e.kids[i]] (exV e.kids[i]):=fun i h=>ih _ (Zpk h) (by have:=ZX (Zpk h); have:=e.sz_eq; omega)
 have hN:e.kids.length≤1099511627776:=by have:=e.sz_eq; omega
 clear ih hl hs;refine Wl.pure fun H0=>?_
 refine ZK fd18 (by simp) ?_;delta c18 Zj Zi Zd Zb Zq Zr Zg Ze
 (repeat' (first | (simp only [↓ZF,ZG,ptrV,intV,Zo5,Zo7,Zpd,Zpo,reduceCtorEq,ZJ,ZQ,fillV,setAt,Zo9,undef,flT_28_0,flT_28_1,Zla,Yg,Ym,ldT_25,YE,JR,Yc,ZmH, *]) | (refine ZH fun zr zh=>?_; have zg:=zh; (try simp only [Zpb] at zg))))
 rename_i r1 n1 n1' r2 n2 n2';have n2'':=n2;rw [Zpb] at n2'';rw [Zpb] at zh;obtain ⟨⟨d23,d32⟩,m3⟩:=zh;rw [Zpb] at m3;obtain ⟨⟨d13,d31⟩,z3⟩:=m3
 have hb:InB (H0.set r2 (.cells 34 [.lit (.int .i64 0),.lit (.string { data:=#[] }),.lit (.slice none 0 0)] 0)) (((H0.set r1 (.cells 28 [iV e.op,sV e.name,encS exE e.kids] 0)).set r2 (.cells 34 [.lit (.int .i64 0),.lit (.string { data:=#[] }),.lit (.slice none 0 0)] 0)).set zr (.cells 34 [iV e.op,sV e.name,.lit (.slice none 0 0)] 0)) zr 34 [iV e.op,sV e.name] [] 34 3 0 [] (.lit (.slice none 0 0)) _ :=
  InB.start (Zpc _ _ _) (((Zph n1).set _ _).trans (Zph (by simp only [Zpf, *,if_false]))) (by simp only [Zpf, *,if_false])
 generalize hH1:((H0.set r1 (.cells 28 [iV e.op,sV e.name,encS exE e.kids] 0)).set r2 (.cells 34 [.lit (.int .i64 0),.lit (.string { data:=#[] }),.lit (.slice none 0 0)] 0)).set zr (.cells 34 [iV e.op,sV e.name,.lit (.slice none 0 0)] 0)=H1 at hb
 refine ZY (fun _ _ _ h=>h) (fun A H=>A.d=[]∧A.t 2=ptrV r2 0∧A.t 3=ptrV zr 0∧A.t 12=encS exE e.kids∧A.t 13=iV e.kids.length∧∃ (i:Nat) (v:VV) (Hb:AH),i≤e.kids.length∧A.t 14=iV i∧InB (H0.set r2 (.cells 34 [.lit (.int .i64 0),.lit (.string { data:=#[] }),.lit (.slice none 0 0)] 0)) H zr 34 [iV e.op,sV e.name] [] 34 3 i (encC exE (e.kids.take i)) v Hb)
  (fun A _=>match A.t 14 with | .lit (.int _ i)=>((e.kids.length:Int)-i).toNat | _=>0) ?_ ?_
 ·exact ⟨rfl,rfl,rfl,rfl,rfl,0,_,_,by omega,rfl,hb⟩
 ·clear hb hH1;rintro ⟨t,d⟩ H ⟨rfl,h2,h3,h12,h13,i,v,Hb,hi,h14,hb⟩;dsimp only at h2 h3 h12 h13 h14;have q3:=hb.at;have q2:=hb.cell2;delta b18_1 Zn Zr Zk Zb Zi Zg Zd Zo Zq Zl Zm Za
  (repeat' (first | (simp only [↓ZF,ZG,ptrV,Zo5,Zo7,Zpd,ZpQ,Zpo,fillV,setAt,Zo9,ZN,WL,ZN,ZW,ZbK,Yk,szT_28,zeroT_28,Yc,ZmH,ZZ,ZlM, *]) | (refine Yf ?_ ?_<;>intro) | (refine Ya rfl (fun _ _ _ h=>h) ?_) | (refine ZR mixed (fun _ _ _ _ e h=>⟨e.trans h.1,h.2⟩) _ (Zpa _) ?_) | (refine ZH fun zr zh=>?_; have zg:=zh; (try simp only [Zpb] at zg); (try have zn_q2:=Zo6 q2 zh); (try have zn_q2:=Zo6 q2 zg.2); (try have zn_q2:=Zo6 q2 zg.2.2); (try have zn_q3:=Zo6 q3 zh); (try have zn_q3:=Zo6 q3 zg.2); (try have zn_q3:=Zo6 q3 zg.2.2)) | (exact Zpa _) | (refine Zpe (ih' _ (by assumption)) ?_) | (with_reducible refine And.intro ?_ ?_)))
  ·rename_i z0 hlt;have hb1:=hb.alloc zh (.cells 28 [iV e.kids[i].op,sV e.kids[i].name,encS exE e.kids[i].kids] 0);refine XJ ZZ Yc rfl (by omega) hb1.own rfl rfl (by omega) (by omega) (fun v' H' ho=>?_);have hb2:=hb1.next ho;have q3':=ho.sub _ _ hb1.blk;have hc1:=ho.cells.1;have hc2:=ho.cells.2;clear hb1 hb q3 q2 ho
   (repeat' (first | (simp only [↓ZF,ZG,ptrV,Zo5,Zo7,Zpd,setAt,ZW,ZmJ, *]) | (with_reducible refine And.intro ?_ ?_)))
   all_goals rw [ZO (n:=(i:Int)+1) (by omega) (by omega)]
   ·rw [← ZjT hlt] at hb2;exact ⟨i+1,v',_,by omega,rfl,hb2⟩
   ·omega
  ·rename_i hlt;have hin:i=e.kids.length:=by omega
   subst hin;rw [ZpD (Zpl _)] at hb;have hc1:=hb.own.cells.1;have hc2:=hb.own.cells.2;delta c18_1 Zb Zg
   (repeat' (first | (simp only [↓ZF,ZG,ptrV,Zo5,Zo7,Zpd,setAt,Zo9,Ye,YE, *])))
   refine ZcU Ye (by simp only [ZI,Zo5,if_false, *]; rfl) (Zpc _ _ _) (by rw [ZpV]; exact XY _ _ _ _) ?_;exact ⟨_,rfl,GhV.agg (hb.ret n2'.2 _)⟩
theorem ZnB {l:List Pa} {i:Nat} (h:i<l.length):encC paE (l.take (i+1))=encC paE (l.take i)++[bV l[i].con,sV l[i].name,encS paE l[i].kids]:=by
 rw [YM h,Yu]; simp only [Yh,Ze6,Zp2,Zko]
theorem copyP_ok (e:Pa):e.sz≤1099511627776→PureF Try.prog 17 [paV e] (paV e):=by
 refine Pa.ind (p:=fun e=>e.sz≤1099511627776→PureF Try.prog 17 [paV e] (paV e)) (fun e ih hs=>?_) e;have hl:=XG e.kids;have ih':∀ i (h:i<e.kids.length),PureF Try.prog 17 [paV e.kids[i]] (paV e.kids[i]):=fun i h=>ih _ (Zpk h) (by have:=Xd (Zpk h); have:=e.sz_eq; omega)
 have hN:e.kids.length≤1099511627776:=by have:=e.sz_eq; omega
 clear ih hl hs;refine Wl.pure fun H0=>?_
 refine ZK fd17 (by simp) ?_;delta c17 Zj Zi Zd Zb Zq Zr Zg Ze
 (repeat' (first | (simp only [↓ZF,ZG,ptrV,intV,Zo5,Zo7,Zpd,Zpo,reduceCtorEq,ZJ,ZQ,fillV,setAt,Zo9,cl_bool,undef,flT_50_0,flT_50_1,Zk9,Zc3,Ym,Zkc,Zcs,stT_57,WE,Zdt, *]) | (refine ZH fun zr zh=>?_; have zg:=zh; (try simp only [Zpb] at zg))))
 rename_i r1 n1 n1' r2 n2 n2';have n2'':=n2;rw [Zpb] at n2'';rw [Zpb] at zh;obtain ⟨⟨d23,d32⟩,m3⟩:=zh;rw [Zpb] at m3;obtain ⟨⟨d13,d31⟩,z3⟩:=m3
 have hb:InB (H0.set r2 (.cells 57 [.lit (.bool false),.lit (.string { data:=#[] }),.lit (.slice none 0 0)] 0)) (((H0.set r1 (.cells 50 [bV e.con,sV e.name,encS paE e.kids] 0)).set r2 (.cells 57 [.lit (.bool false),.lit (.string { data:=#[] }),.lit (.slice none 0 0)] 0)).set zr (.cells 57 [bV e.con,sV e.name,.lit (.slice none 0 0)] 0)) zr 57 [bV e.con,sV e.name] [] 57 3 0 [] (.lit (.slice none 0 0)) _ :=
  InB.start (Zpc _ _ _) (((Zph n1).set _ _).trans (Zph (by simp only [Zpf, *,if_false]))) (by simp only [Zpf, *,if_false])
 generalize hH1:((H0.set r1 (.cells 50 [bV e.con,sV e.name,encS paE e.kids] 0)).set r2 (.cells 57 [.lit (.bool false),.lit (.string { data:=#[] }),.lit (.slice none 0 0)] 0)).set zr (.cells 57 [bV e.con,sV e.name,.lit (.slice none 0 0)] 0)=H1 at hb
 refine ZY (fun _ _ _ h=>h) (fun A H=>A.d=[]∧A.t 2=ptrV r2 0∧A.t 3=ptrV zr 0∧A.t 12=encS paE e.kids∧A.t 13=iV e.kids.length∧∃ (i:Nat) (v:VV) (Hb:AH),i≤e.kids.length∧A.t 14=iV i∧InB (H0.set r2 (.cells 57 [.lit (.bool false),.lit (.string { data:=#[] }),.lit (.slice none 0 0)] 0)) H zr 57 [bV e.con,sV e.name] [] 57 3 i (encC paE (e.kids.take i)) v Hb)
  (fun A _=>match A.t 14 with | .lit (.int _ i)=>((e.kids.length:Int)-i).toNat | _=>0) ?_ ?_
 ·exact ⟨rfl,rfl,rfl,rfl,rfl,0,_,_,by omega,rfl,hb⟩
 ·clear hb hH1;rintro ⟨t,d⟩ H ⟨rfl,h2,h3,h12,h13,i,v,Hb,hi,h14,hb⟩;dsimp only at h2 h3 h12 h13 h14;have q3:=hb.at;have q2:=hb.cell2;delta b17_1 Zn Zr Zk Zb Zi Zg Zd Zo Zq Zl Zm Za
  (repeat' (first | (simp only [↓ZF,ZG,ptrV,Zo5,Zo7,Zpd,ZpQ,Zpo,fillV,setAt,Zo9,ZN,WM,ZN,XD,Zkb,Wi,Zkd,Ze0,WE,Zdt,Xl,en_17, *]) | (refine Yf ?_ ?_<;>intro) | (refine Ya rfl (fun _ _ _ h=>h) ?_) | (refine ZR mixed (fun _ _ _ _ e h=>⟨e.trans h.1,h.2⟩) _ (Zpa _) ?_) | (refine ZH fun zr zh=>?_; have zg:=zh; (try simp only [Zpb] at zg); (try have zn_q2:=Zo6 q2 zh); (try have zn_q2:=Zo6 q2 zg.2); (try have zn_q2:=Zo6 q2 zg.2.2); (try have zn_q3:=Zo6 q3 zh); (try have zn_q3:=Zo6 q3 zg.2); (try have zn_q3:=Zo6 q3 zg.2.2)) | (exact Zpa _) | (refine Zpe (ih' _ (by assumption)) ?_) | (with_reducible refine And.intro ?_ ?_)))
  ·rename_i z0 hlt;have hb1:=hb.alloc zh (.cells 50 [bV e.kids[i].con,sV e.kids[i].name,encS paE e.kids[i].kids] 0);refine XJ Xl WE rfl (by omega) hb1.own rfl rfl (by omega) (by omega) (fun v' H' ho=>?_);have hb2:=hb1.next ho;have q3':=ho.sub _ _ hb1.blk;have hc1:=ho.cells.1;have hc2:=ho.cells.2;clear hb1 hb q3 q2 ho
   (repeat' (first | (simp only [↓ZF,ZG,ptrV,Zo5,Zo7,Zpd,setAt,XD,szT_55, *]) | (with_reducible refine And.intro ?_ ?_)))
   all_goals rw [ZO (n:=(i:Int)+1) (by omega) (by omega)]
   ·rw [← ZnB hlt] at hb2;exact ⟨i+1,v',_,by omega,rfl,hb2⟩
   ·omega
  ·rename_i hlt;have hin:i=e.kids.length:=by omega
   subst hin;rw [ZpD (Zpl _)] at hb;have hc1:=hb.own.cells.1;have hc2:=hb.own.cells.2;delta c17_1 Zb Zg
   (repeat' (first | (simp only [↓ZF,ZG,ptrV,Zo5,Zo7,Zpd,setAt,Zo9,XB,Zcs, *])))
   refine ZcU XB (by simp only [ZI,Zo5,if_false, *]; rfl) (Zpc _ _ _) (by rw [ZpV]; exact XY _ _ _ _) ?_;exact ⟨_,rfl,GhV.agg (hb.ret n2'.2 _)⟩
end Go.PV.Ytglpmlbbaedbiaa
end
section
open Bool renaming and_eq_true→ZpM,and_self→Zp3
open Go.PV.AH renaming get→Zpf,set_set→ZpA,set_none→Zpb
open Go.PV.SubH renaming refl→Zpa,of_set→Zpi
open Int renaming toNat_natCast→ZpW
open List renaming drop_eq_getElem_cons→ZpI,map_cons→Zpp,map_nil→Zpw,length_cons→Zpx,length_nil→Zp0,all_cons→ZpU,drop→Zo9,set_cons_zero→Zp5,set_cons_succ→Zp4,drop_eq_nil_of_le→ZpC
open Nat renaming reduceEqDiff→Zo5,reduceLT→Zo7,reduceAdd→Zpd,succ_ne_self→Zpv,zero_add→Zpu,le_refl→Zpl
set_option maxRecDepth 20000
set_option maxHeartbeats 4000000
namespace Go.PV.Ytglpmlbbaedbiaa
open Go Go.Proofs
def eqL {α β:Type} (p:α→β→Bool):List α→List β→Bool
 | [],[]=>true
 | a::l,b::m=>p a b && eqL p l m
 | _,_=>false
theorem ZnC {α β:Type} {p:α→β→Bool}:∀ {l:List α} {m:List β},eqL p l m=true→l.length=m.length
 | [],[],_=>rfl
 | a::l,b::m,h=>by
   simp only [eqL,ZpM] at h;simp [ZnC h.2]
theorem eqL_ne {α β:Type} {p:α→β→Bool} {l:List α} {m:List β} (h:¬ l.length=m.length):eqL p l m=false:=by
 cases he:eqL p l m with
 | false=>rfl
 | true=>exact absurd (ZnC he) h
theorem Zll {α β:Type} {p:α→β→Bool} {l:List α} {m:List β} {i:Nat} (h:i<l.length) (h':i<m.length):eqL p (l.drop i) (m.drop i)=(p l[i] m[i] && eqL p (l.drop (i+1)) (m.drop (i+1))):=by
 rw [ZpI h,ZpI h',eqL]
theorem equalEE {l m:List Ex} {f:VV} {p:Ex→Ex→Bool} {H:AH} {K:VE→AH→Prop} (hl:l.length≤1099511627776)
 (hf:∀ (i:Nat) (h:i<l.length) (h':i<m.length) H',SubH H H'→FnAt Try.prog f [exV l[i],exV m[i]] (boolV (p l[i] m[i])) H') (hK:K (.ret (boolV (eqL p l m))) H):ZU Try.prog 37 [exsV l,exsV m,f] H K:=by
 refine ReadF.use (x:=boolV (eqL p l m)) ?_ hK;clear hK;refine ZK fd37 (by simp) ?_;delta c37 Zq Za Ze Zn Zr
 (repeat' (first | (simp only [↓ZF,ZG,intV,boolV,Zo5,Zo7,reduceCtorEq,ZJ,undef,ZZ, *]) | (refine Yp ?_ ?_<;>intro) | (refine ZM ?_) | (exact Zpa _) | (with_reducible refine And.intro ?_ ?_)))
 ·rename_i h;rw [eqL_ne (by simp at h; omega)]
 ·rename_i h;have hlm:l.length=m.length:=by simp at h; omega
  refine ZY (fun _ _ _ h=>h) (fun A H'=>SubH H H'∧A.d=[]∧A.t 1=exsV m∧A.t 2=f∧A.t 15=exsV l∧A.t 16=iV l.length∧∃ (i:Nat),i≤l.length∧A.t 17=iV i∧eqL p l m=eqL p (l.drop i) (m.drop i))
   (fun A _=>match A.t 17 with | .lit (.int _ i)=>((l.length:Int)-i).toNat | _=>0) ?_ ?_
  ·exact ⟨Zpa _,rfl,rfl,rfl,rfl,rfl,0,by omega,rfl,rfl⟩
  ·clear h;rintro ⟨t,d⟩ H' ⟨hs',rfl,h1,h2,h15,h16,i,hi,h17,he⟩;dsimp only at h1 h2 h15 h16 h17;rw [he];clear he;delta b37_1 Zn Zr Za Zk Zb Zi Zc Zg Zq Zm
   (repeat' (first | (refine (hf _ _ _ _ ?_) _ ?_) | (simp only [↓Wj,↓Xx,↓Xy,↓Xm,↓YS,↓Zkg,↓ZaU,↓XA,↓Yo,↓Ys,↓ZgQ,↓WK,↓Zb9,↓ZoY,↓Zgm,↓YJ,↓YG,↓WP,↓YH,↓WQ,↓YI,↓YT,↓ZI,↓YV,↓YB,↓YR,↓Wu,↓Wc,↓s_un,↓XQ,↓Xv,↓Xk,↓JM,↓XW,↓ZaL,ptrV,boolV,Zpp,Zpw,Zpx,Zp0,ite_true,ite_false,Zo5,Zo7,Zpd,true_and,Zpv,decide_true,decide_false,Int.natCast_nonneg,ZpW,Zpf,ZpA,setAt,ZpU,List.all_nil,Zp3,eq_self,Zpu,Zo9,and_self,XY,Int.ofNat_lt,JH,JS,Xw,JN,Zp5,Zp4,↓XS,Xt,Zpl,Zbc,Wf,Zeb,Zbo,Wg,Zbd,XF,Zbe,Zbf,WL,Int.ofNat_lt,Ye,YE,Yc,ZZ, *]) | (refine Yf ?_ ?_<;>intro) | (refine Yp ?_ ?_<;>intro) | (refine ZM ?_) | (refine Ya rfl (fun _ _ _ h=>h) ?_) | (refine ZH fun zr zh=>?_; have zg:=zh; (try simp only [Zpb] at zg)) | (refine Zpi ?_ ?_) | (exact SubH.none (by assumption) (by assumption)) | (exact SubH.none (by assumption) zg.2) | (with_reducible refine And.intro ?_ ?_)))
   ·rename_i h2;have h1:i<m.length:=by assumption
    rw [Zll (by omega) h1,show p l[i] m[i]=false from by simpa using h2];rfl
   ·rename_i h2;have h1:i<m.length:=by assumption
    rw [ZO (n:=(i:Int)+1) (by omega) (by omega)];exact ⟨i+1,by omega,rfl,by rw [Zll (by omega) h1,show p l[i] m[i]=true from by simpa using h2,Bool.true_and]⟩
   ·rw [ZO (n:=(i:Int)+1) (by omega) (by omega)];omega
   ·rw [ZpC (by omega),ZpC (by omega)];delta c37_1 Zq
    (repeat' (first | (simp only [↓ZF,ZG,Zo5,Zo7, *]) | (refine ZM ?_)))
    rfl
mutual
def Ex.beq:Ex→Ex→Bool
 | .mk o n k,.mk o' n' k'=>decide (o=o') && decide (n=n') && Zcv k k'
def Zcv:List Ex→List Ex→Bool
 | [],[]=>true
 | a::l,b::m=>a.beq b && Zcv l m
 | _,_=>false
end
theorem ZiR:∀ (l m:List Ex),Zcv l m=eqL Ex.beq l m
 | [],[]=>rfl
 | a::l,b::m=>by rw [Zcv,eqL,ZiR l m]
 | [],b::m=>rfl
 | a::l,[]=>rfl
mutual
theorem Ex.beq_iff:∀ (a b:Ex),a.beq b=true↔a=b
 | .mk o n k,.mk o' n' k'=>by
   simp only [Ex.beq,ZpM,decide_eq_true_eq,ZgW k k',Ex.mk.injEq,and_assoc]
theorem ZgW:∀ (l m:List Ex),Zcv l m=true↔l=m
 | [],[]=>by simp [Zcv]
 | a::l,b::m=>by simp only [Zcv,ZpM,Ex.beq_iff a b,ZgW l m,List.cons.injEq]
 | [],b::m=>by simp [Zcv]
 | a::l,[]=>by simp [Zcv]
end
theorem Ex.beq_eq (a b:Ex):a.beq b=(decide (a.op=b.op) && decide (a.name=b.name) && eqL Ex.beq a.kids b.kids):=by
 cases a; cases b; rw [Ex.beq,ZiR]; rfl
end Go.PV.Ytglpmlbbaedbiaa
end
section
open Go.PV.AH renaming set_none→Zpb,set_same→Zpc,get→Zpf,ne_of→Zo6
open Go.PV.PureF renaming forget→ZpF,use→Zpe
open Go.PV.SubH renaming new→Zph,of_set→Zpi,refl→Zpa
open List renaming drop_eq_getElem_cons→ZpI,map_cons→Zpp,getElem_mem→Zpk,drop→Zo9,drop_zero→ZpV,drop_eq_nil_of_le→ZpC,take_of_length_le→ZpD
open Nat renaming reduceEqDiff→Zo5,reduceLT→Zo7,reduceAdd→Zpd,add_zero→ZpO,reduceLeDiff→Zpo,reduceMul→ZpQ,le_refl→Zpl
set_option maxRecDepth 20000
set_option maxHeartbeats 4000000
namespace Go.PV.Ytglpmlbbaedbiaa
open Go Go.Proofs
theorem ZlZ {l:List Cl} {i:Nat} (h:i<l.length):clsSz (l.drop i)=clSz l[i]+clsSz (l.drop (i+1)):=by
 unfold clsSz; rw [ZpI h,Zpp,List.sum_cons]
theorem Zoh (f:Fu) (hs:fuSz f≤1099511627776):PureF Try.prog 7 [fuV f] (iV (fuSz f)):=by
 have hl:f.cls.length≤clsSz f.cls:=Zcl Ze7 f.cls;obtain ⟨N,hN,hNs,hlN⟩:∃ N,fuSz f=N∧N≤1099511627776∧f.cls.length≤N:=⟨_,rfl,hs,by unfold fuSz; omega⟩
 have h0:1+clsSz f.cls=N:=by rw [← hN]; rfl
 have hc:∀ i (h:i<f.cls.length),clSz f.cls[i]≤N:=fun i h=>by have:=Jz (f:=clSz) (Zpk h); unfold clsSz at h0; omega
 rw [hN];clear hs hl hN;refine ZpF fun H=>?_
 refine ZK fd7 (by simp) ?_;delta c7 Zj Zf Zd Zb Ze Zq
 (repeat' (first | (simp only [↓ZF,ZG,ptrV,intV,Zo5,Zo7,reduceCtorEq,ZJ,Zo9,undef,Zk4,ldT_22,Zka, *]) | (refine ZH fun zr zh=>?_; have zg:=zh; (try simp only [Zpb] at zg))))
 refine ZY (fun _ _ _ h=>h) (fun A H'=>SubH H H'∧A.d=[]∧A.t 11=clsV f.cls∧A.t 12=iV f.cls.length∧∃ (i n:Nat),i≤f.cls.length∧A.t 13=iV i∧A.t 3=iV n∧n+clsSz (f.cls.drop i)=N)
  (fun A _=>match A.t 13 with | .lit (.int _ i)=>((f.cls.length:Int)-i).toNat | _=>0) ?_ ?_
 ·exact ⟨Zph zh,rfl,rfl,rfl,0,1,by omega,rfl,rfl,h0⟩
 ·clear h0;rintro ⟨t,d⟩ H' ⟨hs',rfl,h11,h12,i,n,hi,h13,h3,hn⟩;dsimp only at h11 h12 h13 h3;delta b7_2 Zn Zr Zk Zb Zi Zg Zd Zo Za Zh Zc Zq Ze;have hb:∀ i (h:i<f.cls.length),PureF Try.prog 8 [exV f.cls[i].body] (.tuple [iV f.cls[i].body.sz,iV f.cls[i].body.dp]):=fun i h=>Zlj _ (by have:=hc i h; unfold clSz at this; omega)
  (repeat' (first | (simp only [↓ZF,ZG,ZP,ptrV,intV,Zo5,Zo7,Zpd,reduceCtorEq,setAt,Zo9,ZdE,Zk7,Zk8,ldT_46,ZbK,Zkc,szT_46,Zk5,Zdt,Zka,en_8, *]) | (refine Yf ?_ ?_<;>intro) | (refine Ya rfl (fun _ _ _ h=>h) ?_) | (refine ZH fun zr zh=>?_; have zg:=zh; (try simp only [Zpb] at zg)) | (refine Zpe (hb _ (by assumption)) ?_)))
  ·rename_i hlt _;have hlt:i<f.cls.length:=by assumption
   have e1:=ZlZ hlt;have e2:=hc i hlt;have e3:clSz f.cls[i]=1+pasSz f.cls[i].pats+f.cls[i].body.sz:=rfl;have e4:=XG f.cls[i].pats;have hp:∀ k (h:k<f.cls[i].pats.length),PureF Try.prog 15 [paV f.cls[i].pats[k]] (iV f.cls[i].pats[k].sz):=fun k h=>Zog _ (by have:=Xd (Zpk h); omega)
   rw [ZO (n:=1+(f.cls[i].body.sz:Int)) (by omega) (by omega),ZO (n:=(n:Int)+(1+(f.cls[i].body.sz:Int))) (by omega) (by omega)]
   refine ZY (fun _ _ _ h=>h) (fun A H'=>SubH H H'∧A.d=[]∧A.t 11=clsV f.cls∧A.t 12=iV f.cls.length∧A.t 13=iV i∧A.t 28=pasV f.cls[i].pats∧A.t 29=iV f.cls[i].pats.length∧∃ (k m:Nat),k≤f.cls[i].pats.length∧A.t 30=iV k∧A.t 3=iV m∧m+pasSz (f.cls[i].pats.drop k)=n+clSz f.cls[i])
    (fun A _=>match A.t 30 with | .lit (.int _ k)=>((f.cls[i].pats.length:Int)-k).toNat | _=>0) ?_ ?_
   ·exact ⟨hs'.of_set (hs'.none zh),rfl,(by simp only [ZI,Zo5,if_false, *]<;>rfl),(by simp only [ZI,Zo5,if_false, *]<;>rfl),(by simp only [ZI,Zo5,if_false, *]<;>rfl),(by simp only [ZI,Zo5,if_true,if_false, *]<;>rfl),(by simp only [ZI,Zo5,if_true,if_false, *]<;>rfl),0,n+(1+f.cls[i].body.sz),by omega,(by simp only [ZI,Zo5,if_true,if_false, *]<;>rfl),by simp [ZI],by rw [e3]; simp only [ZpV]; omega⟩
   ·clear h11 h12 h13 h3 hb;rintro ⟨t,d⟩ H' ⟨hs',rfl,h11,h12,h13,h28,h29,k,m,hk,h30,h3,hm⟩;dsimp only at h11 h12 h13 h28 h29 h30 h3;delta b7_1 Zn Zr Zk Zb Zi Zg Za Zo Zc Zm
    (repeat' (first | (simp only [↓ZF,ZG,ptrV,Zo5,Zo7,Zpd,reduceCtorEq,setAt,Zo9,WM,Zkb,Zkd,Ze0,Zdt,en_15, *]) | (refine Yf ?_ ?_<;>intro) | (refine Ya rfl (fun _ _ _ h=>h) ?_) | (refine ZH fun zr zh=>?_; have zg:=zh; (try simp only [Zpb] at zg)) | (refine Zpi ?_ ?_) | (exact SubH.none (by assumption) (by assumption)) | (refine Zpe (hp _ (by assumption)) ?_) | (with_reducible refine And.intro ?_ ?_)))
    ·have hk2:k<f.cls[i].pats.length:=by assumption
     have e5:=Zcb hk2;rw [ZO (n:=(k:Int)+1) (by omega) (by omega),ZO (n:=(m:Int)+(f.cls[i].pats[k].sz:Int)) (by omega) (by omega)];exact ⟨k+1,m+f.cls[i].pats[k].sz,by omega,rfl,by simp,by omega⟩
    ·rw [ZO (n:=(k:Int)+1) (by omega) (by omega)];omega
    ·delta c7_1 Zm Za;rw [ZpC (by omega)] at hm;simp only [pasSz,ZpO] at hm;clear h30
     (repeat' (first | (simp only [↓ZF,ZG,Zo5,Zo7, *]) | (with_reducible refine And.intro ?_ ?_)))
     ·rw [ZO (n:=(i:Int)+1) (by omega) (by omega)];exact ⟨i+1,_,by omega,rfl,rfl,by omega⟩
     ·rw [ZO (n:=(i:Int)+1) (by omega) (by omega)];omega
  ·rw [ZpC (by omega)] at hn;delta c7_2 Za Zc;have hn':N=n:=by simpa [clsSz] using hn.symm
   subst hn'
   (repeat' (first | (simp only [↓ZF,ZG,Zo5,Zo7, *]) | (refine ZM ?_)))
theorem cl_take {l:List Cl} {i:Nat} (h:i<l.length):encC clE (l.take (i+1))=encC clE (l.take i)++[pasV l[i].pats,iV l[i].body.op,sV l[i].body.name,encS exE l[i].body.kids]:=by
 rw [YM h,Yu]; rfl
theorem fun_ok (f:Fu) (hs:fuSz f≤1099511627776):PureF Try.prog 11 [fuV f] (fuV f):=by
 have hl:f.cls.length≤clsSz f.cls:=Zcl Ze7 f.cls;have hN:f.cls.length≤1099511627776:=by unfold fuSz at hs; omega
 have hc:∀ i (h:i<f.cls.length),clSz f.cls[i]≤1099511627776:=fun i h=>by have:=Jz (f:=clSz) (Zpk h); unfold fuSz clsSz at hs; omega
 have hb:∀ i (h:i<f.cls.length),PureF Try.prog 18 [exV f.cls[i].body] (exV f.cls[i].body):=fun i h=>Zlk _ (by have:=hc i h; unfold clSz at this; omega)
 have hp:∀ i (h:i<f.cls.length) k (h':k<f.cls[i].pats.length),PureF Try.prog 17 [paV f.cls[i].pats[k]] (paV f.cls[i].pats[k]):=fun i h k h'=>copyP_ok _ (by have h1:=hc i h; have h2:=Xd (Zpk h'); unfold clSz at h1; omega)
 have hpl:∀ i (h:i<f.cls.length),f.cls[i].pats.length≤1099511627776:=fun i h=>by have h1:=hc i h; have h2:=XG f.cls[i].pats; unfold clSz at h1; omega
 clear hs hl hc;refine Wl.pure fun H0=>?_
 refine ZK fd11 (by simp) ?_;delta c11 Zj Zi Zd Zb Zq Zr Zg Ze
 (repeat' (first | (simp only [↓ZF,ZG,ptrV,intV,Zo5,Zo7,Zpd,Zpo,reduceCtorEq,ZJ,ZQ,fillV,setAt,Zo9,undef,flT_24_0,flT_24_1,Zk4,Ym,Yg,ldT_22,Zke,stT_40,ZcR,Zka, *]) | (refine ZH fun zr zh=>?_; have zg:=zh; (try simp only [Zpb] at zg))))
 rename_i r1 n1 n1' r2 n2 n2';obtain ⟨⟨d32,d23⟩,⟨d31,d13⟩,n3⟩:=zg;obtain ⟨⟨d21,d12⟩,n2''⟩:=n2'
 have hb0:InB (H0.set r2 (.cells 40 [.lit (.string { data:=#[] }),.lit (.int .i64 0),.lit (.slice none 0 0)] 0)) (((H0.set r1 (.cells 24 (fuE f) 0)).set r2 (.cells 40 [.lit (.string { data:=#[] }),.lit (.int .i64 0),.lit (.slice none 0 0)] 0)).set zr (.cells 40 [sV f.name,iV f.arity,.lit (.slice none 0 0)] 0)) zr 40 [sV f.name,iV f.arity] [] 93 4 0 [] (.lit (.slice none 0 0)) _ :=
  InB.start (Zpc _ _ _) (((Zph n1).set _ _).trans (Zph zh)) (by simp only [Zpf, *,if_false])
 generalize hH1:((H0.set r1 (.cells 24 (fuE f) 0)).set r2 (.cells 40 [.lit (.string { data:=#[] }),.lit (.int .i64 0),.lit (.slice none 0 0)] 0)).set zr (.cells 40 [sV f.name,iV f.arity,.lit (.slice none 0 0)] 0)=H1 at hb0
 refine ZY (fun _ _ _ h=>h) (fun A H=>A.d=[]∧A.t 2=ptrV r2 0∧A.t 3=ptrV zr 0∧A.t 15=clsV f.cls∧A.t 16=iV f.cls.length∧∃ (i:Nat) (v:VV) (Hb:AH),i≤f.cls.length∧A.t 17=iV i∧InB (H0.set r2 (.cells 40 [.lit (.string { data:=#[] }),.lit (.int .i64 0),.lit (.slice none 0 0)] 0)) H zr 40 [sV f.name,iV f.arity] [] 93 4 i (encC clE (f.cls.take i)) v Hb)
  (fun A _=>match A.t 17 with | .lit (.int _ i)=>((f.cls.length:Int)-i).toNat | _=>0) ?_ ?_
 ·exact ⟨rfl,rfl,rfl,rfl,rfl,0,_,_,by omega,rfl,hb0⟩
 ·clear hb0 hH1 n2 zh;rintro ⟨t,d⟩ H ⟨rfl,h2,h3,h15,h16,i,v,Hb,hi,h17,hbl⟩;dsimp only at h2 h3 h15 h16 h17;have q3:=hbl.at;have q2:=hbl.cell2;delta b11_2 Zn Zr Zk Zb Zi Zg Zd Zo Zq Ze
  (repeat' (first | (simp only [↓ZF,ZG,ptrV,intV,Zo5,Zo7,Zpd,reduceCtorEq,ZQ,fillV,setAt,Zo9,ZdE,Zk7,Zk8,ldT_46,ZbK,Zkc,szT_46,Zih,stT_93,Zk5,Za8,Zdt,Zka,ZlM, *]) | (refine Yf ?_ ?_<;>intro) | (refine Ya rfl (fun _ _ _ h=>h) ?_) | (refine ZH fun zr zh=>?_; have zg:=zh; (try simp only [Zpb] at zg); (try have zn_q2:=Zo6 q2 zh); (try have zn_q2:=Zo6 q2 zg.2); (try have zn_q2:=Zo6 q2 zg.2.2); (try have zn_q3:=Zo6 q3 zh); (try have zn_q3:=Zo6 q3 zg.2); (try have zn_q3:=Zo6 q3 zg.2.2)) | (refine Zpe (hb _ (by assumption)) ?_)))
  ·have hlt:i<f.cls.length:=by assumption
   rename_i r5 n5 n5' e25 e35;have hb5:=hbl.alloc n5 (.cells 46 [pasV f.cls[i].pats,iV f.cls[i].body.op,sV f.cls[i].body.name,exsV f.cls[i].body.kids] 0);obtain ⟨X,hX⟩:∃ X,X=H.set r5 (.cells 46 [pasV f.cls[i].pats,iV f.cls[i].body.op,sV f.cls[i].body.name,exsV f.cls[i].body.kids] 0):=⟨_,rfl⟩
   rw [← hX] at zh hb5;rw [← hX];clear hX n5 n5' q2 q3 hbl
   have hin:InB X (X.set zr (.cells 93 [.lit (.slice none 0 0),iV f.cls[i].body.op,sV f.cls[i].body.name,encS exE f.cls[i].body.kids] 0)) zr 93 [] [iV f.cls[i].body.op,sV f.cls[i].body.name,encS exE f.cls[i].body.kids] 57 3 0 [] (.lit (.slice none 0 0)) _ :=
    InB.start (Zpc _ _ _) (Zph zh) zh
   have hpl':=hpl i hlt;have hp':=hp i hlt
   refine ZY (fun _ _ _ h=>h) (fun A H'=>A.d=[]∧A.t 2=ptrV r2 0∧A.t 3=t 3∧A.t 15=clsV f.cls∧A.t 16=iV f.cls.length∧A.t 17=iV i∧A.t 6=ptrV zr 0∧A.t 26=pasV f.cls[i].pats∧A.t 27=iV f.cls[i].pats.length∧∃ (k:Nat) (w:VV) (Hc:AH),k≤f.cls[i].pats.length∧A.t 28=iV k ∧
    InB X H' zr 93 [] [iV f.cls[i].body.op,sV f.cls[i].body.name,encS exE f.cls[i].body.kids] 57 3 k (encC paE (f.cls[i].pats.take k)) w Hc)
    (fun A _=>match A.t 28 with | .lit (.int _ k)=>((f.cls[i].pats.length:Int)-k).toNat | _=>0) ?_ ?_
   ·exact ⟨rfl,(by simp only [ZI,Zo5,if_false, *]<;>rfl),(by simp only [ZI,Zo5,if_false, *]<;>rfl),(by simp only [ZI,Zo5,if_false, *]<;>rfl),(by simp only [ZI,Zo5,if_false, *]<;>rfl),(by simp only [ZI,Zo5,if_false, *]<;>rfl),(by simp only [ZI,Zo5,if_true,if_false, *]<;>rfl),(by simp only [ZI,Zo5,if_true,if_false, *]<;>rfl),(by simp only [ZI,Zo5,if_true,if_false, *]<;>rfl),0,_,_,by omega,(by simp only [ZI,Zo5,if_true,if_false, *]<;>rfl),hin⟩
   ·rw [h3];clear hin h2 h3 h15 h16 h17 hb hp hpl;rintro ⟨t,d⟩ H' ⟨rfl,h2,h3,h15,h16,h17,h6,h26,h27,k,w,Hc,hk,h28,hi2⟩;dsimp only at h2 h3 h15 h16 h17 h6 h26 h27 h28;have q6:=hi2.at;delta b11_1 Zn Zr Zk Zb Zi Zg Zd Zo Zq Zl Zm Za
    (repeat' (first | (simp only [↓ZF,ZG,ptrV,Zo5,Zo7,Zpd,ZpQ,Zpo,reduceCtorEq,fillV,setAt,Zo9,ZN,WM,ZN,Zal,Zkb,Wi,Zkd,Ze0,Zdt,Xl,WE,en_17, *]) | (refine Yf ?_ ?_<;>intro) | (refine ZR mixed (fun _ _ _ _ e h=>⟨e.trans h.1,h.2⟩) _ (Zpa _) ?_) | (refine ZH fun zr zh=>?_; have zg:=zh; (try simp only [Zpb] at zg); (try have zn_q6:=Zo6 q6 zh); (try have zn_q6:=Zo6 q6 zg.2); (try have zn_q6:=Zo6 q6 zg.2.2)) | (exact Zpa _) | (refine Zpe (hp' _ (by assumption)) ?_) | (with_reducible refine And.intro ?_ ?_)))
    ·have hkt:k<f.cls[i].pats.length:=by assumption
     have hi3:=hi2.alloc zh (.cells 50 [bV f.cls[i].pats[k].con,sV f.cls[i].pats[k].name,encS paE f.cls[i].pats[k].kids] 0);refine XJ Xl WE rfl (by omega) hi3.own rfl rfl (by omega) (by omega) (fun w' H'' ho=>?_);have hi4:=hi3.next ho;have q6':=ho.sub _ _ hi3.blk;have hc1:=ho.cells.1;have hc2:=ho.cells.2;clear hi3 hi2 q6 ho
     (repeat' (first | (simp only [↓ZF,ZG,ptrV,Zo5,Zo7,Zpd,Zpo,setAt,Zal,szT_55, *]) | (with_reducible refine And.intro ?_ ?_)))
     all_goals rw [ZO (n:=(k:Int)+1) (by omega) (by omega)]
     ·rw [← ZnB hkt] at hi4;exact ⟨k+1,w',_,by omega,rfl,hi4⟩
     ·omega
    ·have hke:k=f.cls[i].pats.length:=by omega
     subst hke;rw [ZpD (Zpl _)] at hi2;refine JY (hi2.ghost _ _) ?_;have hb6:=hb5.alloc hi2.new (.cells 93 (clE f.cls[i]) 0);have q3:=hb6.at;have q2:=hb6.cell2;have q6':(X.set zr (.cells 93 (clE f.cls[i]) 0)) zr=some (.cells 93 (clE f.cls[i]) 0):=Zpc _ _ _;clear hi2 q6 hb5;show ACx _ _ _ _ (X.set zr (.cells 93 (clE f.cls[i]) 0));generalize X.set zr (.cells 93 (clE f.cls[i]) 0)=Y at *
     delta c11_1 Zd Zb Zq Zr Zl Zg
     (repeat' (first | (simp only [↓ZF,ZG,ptrV,Zo5,Zo7,Zpd,ZpQ,Zpo,fillV,setAt,Zo9,ZN,ZN,Za9,Zgq,Zig,Za8,Zbj, *]) | (refine Ya rfl (fun _ _ _ h=>h) ?_)))
     refine XJ Zbj Za8 rfl (by omega) hb6.own rfl rfl (by omega) (by omega) (fun v' H'' ho=>?_);have hb7:=hb6.next ho;have q3':=ho.sub _ _ hb6.blk;have hc1:=ho.cells.1;have hc2:=ho.cells.2;clear hb6 q3 q2 ho q6';delta c11_2 Zm Za
     (repeat' (first | (simp only [↓ZF,ZG,ptrV,Zo5,Zo7,Zpd,setAt,Za9,szT_38, *]) | (refine Ya rfl (fun _ _ _ h=>h) ?_) | (with_reducible refine And.intro ?_ ?_)))
     all_goals rw [ZO (n:=(i:Int)+1) (by omega) (by omega)]
     ·rw [← cl_take hlt] at hb7;exact ⟨i+1,v',_,by omega,rfl,hb7⟩
     ·omega
  ·have hin:i=f.cls.length:=by omega
   subst hin;rw [ZpD (Zpl _)] at hbl;have hc1:=hbl.own.cells.1;have hc2:=hbl.own.cells.2;delta c11_3 Zb Zg
   (repeat' (first | (simp only [↓ZF,ZG,ptrV,Zo5,Zo7,Zpd,setAt,Zo9,Zdu,Zke, *])))
   refine ZcU Zdu (by simp only [ZI,Zo5,if_false, *]; rfl) (Zpc _ _ _) (by rw [ZpV]; exact XY _ _ _ _) ?_;exact ⟨_,rfl,GhV.agg (hbl.ret n2'' _)⟩
end Go.PV.Ytglpmlbbaedbiaa
end
section
namespace Go.PV
open Go
def smap (m:ByteArray→Option VV):Value→Option VV
 | .string s=>m s
 | _=>none
def supd (m:ByteArray→Option VV) (s:ByteArray) (y:VV):ByteArray→Option VV:=fun s'=>if s'=s then some y else m s'
theorem smap_set (m:ByteArray→Option VV) (s:ByteArray) (y:VV):mset (smap m) (.string s) y=smap (supd m s y):=by
 funext k
 by_cases h:k=.string s
 ·subst h; rw [Zc1]; simp [smap,supd]
 ·rw [Zdp _ _ h];cases k<;>simp only [smap,supd]<;>try rfl
  rename_i s';rw [if_neg]; rintro rfl; exact h rfl
theorem Zlm:(fun _=>none:Value→Option VV)=smap (fun _=>none):=by funext k; cases k<;>rfl
structure Zcw (P:Program) (t:TypeId) (z:Value):Prop where
 mt:MapT P t z
 all:∀ s:ByteArray,s.size≤maxLen→Wp P t (.string s)
section
variable {P:Program} {t:TypeId} {z:Value} {H:AH} {K:VE→AH→Prop} {r:Nat} {m:ByteArray→Option VV} {s:ByteArray}
theorem ZfN {ok:Bool} (h:Zcw P t z) (hz:s.size≤maxLen) (hr:H r=some (.map (Wp P t) (smap m))) (hk:(∀ y,m s=some y→K (.ret (okV ok y true)) H)) (hn:m s=none→K (.ret (okV ok (.lit z) false)) H):Zaj P t (.lit (.map (some r))) (.lit (.string s)) ok H K:=by
 refine ⟨z,h.mt,.string s,rfl,h.all s hz,?_⟩;simp only [hr];refine ⟨fun _ h=>h,?_⟩;show (match m s with | some y=>K (.ret (okV ok y true)) H | none=>K (.ret (okV ok (.lit z) false)) H);cases hm:m s with
 | some y=>exact hk y hm
 | none=>exact hn hm
theorem ZfO {y:VV} (h:Zcw P t z) (hz:s.size≤maxLen) (hr:H r=some (.map (Wp P t) (smap m))) (hk:K (.ret ZJ) (H.set r (.map (Wp P t) (smap (supd m s y))))):Zak P t (.lit (.map (some r))) (.lit (.string s)) y H K:=by
 refine ⟨z,h.mt,.string s,rfl,h.all s hz,?_⟩;simp only [hr,smap_set];exact ⟨fun _ h=>h,h.all s hz,hk⟩
theorem sm_make (hk:∀ r,H r=none→K (.ret (.lit (.map (some r)))) (H.set r (.map (Wp P t) (smap fun _=>none)))):ZaG P t H K:=by
 intro r hr;rw [Zlm];exact hk r hr
end
theorem ZmS {P:Program} {t kt et:TypeId} {z:Value} (hu:P.underlying t=some (.map kt et)) (hs:P.underlying kt=some .string) (hz:zeroV P et=some z):Zcw P t z:=by
 refine ⟨⟨kt,et,hu,Go.Maps.string_keyed hs,hz⟩,fun s hl=>?_⟩
 have:∃ l,keyOf P kt (.string s)=some l:=by
  simp only [keyOf,hs,mapKey,hl,if_true];exact ⟨_,rfl⟩
 obtain ⟨l,hl⟩:=this;exact ⟨kt,et,l,hu,hl⟩
end Go.PV
end
section
open Bool renaming false_eq_true→ZpT
open Go.PV.AH renaming set_none→Zpb,set_same→Zpc,get→Zpf
open Go.PV.PureF renaming use→Zpe,forget→ZpF
open Go.PV.SubH renaming refl→Zpa,new→Zph,of_set→Zpi
open Int renaming toNat_natCast→ZpW
open List renaming take_of_length_le→ZpD,cons_append→Zp6,append_assoc→Zqc,length_append→Zpy,getElem_mem→Zpk,drop→Zo9,map_cons→Zpp,map_nil→Zpw,getD_cons_zero→ZpN,getD_cons_succ→ZpK,getD_nil→ZpL
open Nat renaming le_refl→Zpl,reduceEqDiff→Zo5,reduceLT→Zo7,reduceAdd→Zpd,reduceLeDiff→Zpo,succ_ne_self→Zpv
set_option maxRecDepth 20000
set_option maxHeartbeats 4000000
namespace Go.PV.Ytglpmlbbaedbiaa
open Go Go.Proofs
theorem Zbb {α:Type} {enc:α→List VV} (h:∀ a,(enc a).all VV.one=true) (l:List α):(encC enc l).all VV.one=true:=by
 induction l with
 | nil=>rfl
 | cons x l ih=>rw [Yh]; simp [ih,h x]
theorem Zcm {α:Type} {enc:α→List VV} {k:Nat} (h:∀ a,(enc a).length=k) (H:AH) (ex:Bool) (l:List α):srcV H k (.slice ex l.length (encC enc l))=some (l.length,encC enc l):=by
 have e:=XU h l;simp only [srcV,e,Zpl,if_true];rw [ZpD (by omega)]
mutual
def Pa.names:Pa→List ByteArray
 | .mk c n ks=>if c=true then ZV ks else [n]
def ZV:List Pa→List ByteArray
 | []=>[]
 | p::l=>p.names++ZV l
end
theorem Pa.names_eq (p:Pa):p.names=if p.con=true then ZV p.kids else [p.name]:=by cases p; rfl
theorem Zcc:∀ (l m:List Pa),ZV (l++m)=ZV l++ZV m
 | [],m=>rfl
 | p::l,m=>by rw [Zp6,ZV,ZV,Zcc l m,Zqc]
mutual
theorem Pa.names_len:∀ p:Pa,p.names.length≤p.sz
 | .mk c n ks=>by
   have:=JF ks
   rw [Pa.names,Pa.sz];split
   ·omega
   ·simp
theorem JF:∀ l:List Pa,(ZV l).length≤pasSz l
 | []=>by simp [ZV]
 | p::l=>by have:=Pa.names_len p; have:=JF l; rw [ZV,pasSz,Zpy]; omega
end
theorem str_one (s:ByteArray):(strE s).all VV.one=true:=rfl
theorem ZdG {l:List Pa} {i:Nat} (h:i<l.length):ZV (l.take (i+1))=ZV (l.take i)++l[i].names:=by
 rw [YM h,Zcc]; simp [ZV]
theorem Zef:∀ (l:List Pa) (i:Nat),pasSz (l.take i)≤pasSz l
 | [],i=>by simp
 | p::l,0=>by simp [pasSz]
 | p::l,i+1=>by rw [List.take_succ_cons,pasSz,pasSz]; have:=Zef l i; omega
theorem names_ok:∀ (n:Nat) (l:List Pa),pasSz l<n→pasSz l≤1099511627776→PureF Try.prog 34 [pasV l] (strsV (ZV l)):=by
 intro n
 induction n with
 | zero=>intro l h0 hs; omega
 | succ n ih =>
   intro l h0 hs;have hl:=XG l;have ih':∀ i (h:i<l.length),PureF Try.prog 34 [pasV l[i].kids] (strsV (ZV l[i].kids)):=fun i h=>ih _ (by have:=Xd (Zpk h); have:=l[i].sz_eq; omega) (by have:=Xd (Zpk h); have:=l[i].sz_eq; omega)
   have hk:∀ i (h:i<l.length),(ZV l[i].kids).length≤1099511627776:=fun i h=>by have:=Xd (Zpk h); have:=l[i].sz_eq; have:=JF l[i].kids; omega
   have hN:l.length≤1099511627776:=by omega
   clear ih h0;refine Wl.pure fun H=>?_
   refine ZK fd34 (by simp) ?_;delta c34 Zq Za Ze
   (repeat' (first | (simp only [↓ZF,ZG,intV,Zo5,Zo7,reduceCtorEq,ZJ,undef,Xl, *])))
   refine ZY (fun _ _ _ h=>h) (fun A H'=>A.d=[]∧A.t 6=pasV l∧A.t 7=iV l.length∧∃ (i:Nat) (Hb:AH),i≤l.length∧A.t 8=iV i∧SubH H Hb∧OwnX Hb H' 9 1 (A.t 3) (ZV (l.take i)).length (encC strE (ZV (l.take i))))
    (fun A _=>match A.t 8 with | .lit (.int _ i)=>((l.length:Int)-i).toNat | _=>0) ?_ ?_
   ·exact ⟨rfl,rfl,rfl,0,_,by omega,rfl,Zpa _,OwnX.nil _ _ _⟩
   ·rintro ⟨t,d⟩ H' ⟨rfl,h6,h7,i,Hb,hi,h8,hs',ho⟩;dsimp only at h6 h7 h8 ho;have hlen:=JF (l.take i);have htk:=Zef l i;delta b34_1 Zn Zr Zk Zb Zi Zg Zd Za Zo Zl Zc Zq Zm
    (repeat' (first | (simp only [↓ZF,ZG,ptrV,Zo5,Zo7,Zpd,Zpo,fillV,setAt,Zo9,ZN,WM,ZN,WY,XD,Wb,XB,Zc3,Wi,Ym,Zcs,WE,Xl,Jp,Zbt,en_34, *]) | (refine Yf ?_ ?_<;>intro) | (refine Yp ?_ ?_<;>intro) | (refine Ya rfl (fun _ _ _ h=>h) ?_) | (refine ZH fun zr zh=>?_; have zg:=zh; (try simp only [Zpb] at zg)) | (refine Zpe (ih' _ (by assumption)) ?_)))
    ·have hlt:i<l.length:=by assumption
     have hc:l[i].con=true:=by assumption
     have e:ZV (l.take (i+1))=ZV (l.take i)++ZV l[i].kids:=by rw [ZdG hlt,Pa.names_eq,if_pos hc]
     have hk':=hk i hlt;refine Za0 Jp Zbt rfl (by omega) (ho.alloc zh _) (Zcm (enc:=strE) (k:=1) (fun _=>rfl) _ false _) (Zbb str_one _) (by omega) (by omega) (fun v' H'' ho2=>?_);rw [← Yu,← Zpy,← e] at ho2
     (repeat' (first | (simp only [↓ZF,ZG,Zo5,Zo7, *]) | (with_reducible refine And.intro ?_ ?_)))
     all_goals rw [ZO (n:=(i:Int)+1) (by omega) (by omega)]
     ·exact ⟨i+1,_,by omega,rfl,hs'.of_set (hs'.none (ho.sub.none zh)),ho2⟩
     ·omega
    ·have hlt:i<l.length:=by assumption
     have hc:l[i].con=false:=by assumption
     have e:ZV (l.take (i+1))=ZV (l.take i)++[l[i].name]:=by rw [ZdG hlt,Pa.names_eq,if_neg (by simp [hc])]
     refine XJ Jp Zbt rfl (by omega) (ho.alloc zh _) rfl rfl (by omega) (by omega) (fun v' H'' ho2=>?_);have e2:encC strE (ZV (l.take (i+1)))=encC strE (ZV (l.take i))++[sV l[i].name]:=by rw [e,Yu]; rfl
     have e3:(ZV (l.take (i+1))).length=(ZV (l.take i)).length+1:=by rw [e,Zpy]; rfl
     rw [← e2,← e3] at ho2
     (repeat' (first | (simp only [↓ZF,ZG,Zo5,Zo7, *]) | (with_reducible refine And.intro ?_ ?_)))
     all_goals rw [ZO (n:=(i:Int)+1) (by omega) (by omega)]
     ·exact ⟨i+1,_,by omega,rfl,hs'.of_set (hs'.none (ho.sub.none zh)),ho2⟩
     ·omega
    ·have hin:i=l.length:=by omega
     subst hin;rw [ZpD (Zpl _)] at ho;delta c34_1 Za Zc
     (repeat' (first | (simp only [↓ZF,ZG,Zo5,Zo7, *]) | (refine ZM ?_)))
     exact ⟨_,rfl,GhV.back ho hs'⟩
theorem ZgX:Zcw Try.prog 138 (.bool false):=ZmS (kt:=9) (et:=4) (by kernel_rfl) (by kernel_rfl) (by kernel_rfl)
open Classical in
noncomputable def ZdH (l:List ByteArray):ByteArray→Option VV:=fun s=>if s∈l then some (boolV true) else none
theorem Zl0:(fun _=>none:ByteArray→Option VV)=ZdH []:=by funext s; simp [ZdH]
theorem ZkI (l:List ByteArray) (s:ByteArray):supd (ZdH l) s (boolV true)=ZdH (l++[s]):=by
 funext s'
 simp only [supd,ZdH];by_cases h:s'=s
 ·subst h; rw [if_pos rfl,if_pos (by simp)]
 ·rw [if_neg h];by_cases h2:s'∈l
  ·rw [if_pos h2,if_pos (by simp [h2])]
  ·rw [if_neg h2,if_neg (by simp [h2,h])]
theorem Zeg {l:List ByteArray} {s:ByteArray}:(l++[s]).Nodup↔l.Nodup∧s ∉ l:=by
 rw [List.nodup_append]
 constructor
 ·rintro ⟨h1,h2,h3⟩;exact ⟨h1,fun h=>h3 s h s (by simp) rfl⟩
 ·rintro ⟨h1,h2⟩;refine ⟨h1,by simp,fun a ha b hb=>?_⟩;simp at hb; subst hb; rintro rfl; exact h2 ha
theorem ZgY {l:List ByteArray} (h:l.Nodup) (i:Nat):(l.take i).Nodup:=h.sublist (List.take_sublist _ _)
theorem twice_ok (l:List ByteArray) (hl:l.length≤1099511627776) (hz:∀ s∈l,s.size≤maxLen):PureF Try.prog 33 [strsV l] (boolV (!decide l.Nodup)):=by
 refine ZpF fun H=>?_
 refine ZK fd33 (by simp) ?_;delta c33 Zq Zc Za Ze
 (repeat' (first | (refine sm_make (fun mp zh=>?_)) | (simp only [↓Xx,↓Xy,↓Zbm,↓YS,↓Zin,↓XA,↓Yo,↓Ys,↓YJ,↓YG,↓YH,↓YI,↓YT,↓ZI,↓YV,↓YB,↓ZiM,↓Jy,↓Zd7,intV,boolV,Zpp,Zpw,ZpN,ZpK,ZpL,ite_true,ite_false,Zo5,Zo7,ne_eq,not_false_eq_true,true_and,Zpv,reduceCtorEq,ZJ,eq_self,ZbQ,undef,Jp, *])))
 have hs0:=Zph (b:=.map (Wp Try.prog 138) (smap fun _=>none)) zh
 refine ZY (fun _ _ _ h=>h) (fun A H'=>A.d=[]∧A.t 3=.lit (.map (some mp))∧A.t 7=strsV l∧A.t 8=iV l.length∧SubH H H'∧∃ (i:Nat),i≤l.length∧A.t 9=iV i∧H' mp=some (.map (Wp Try.prog 138) (smap (ZdH (l.take i))))∧(l.take i).Nodup)
  (fun A _=>match A.t 9 with | .lit (.int _ i)=>((l.length:Int)-i).toNat | _=>0) ?_ ?_
 ·exact ⟨rfl,rfl,rfl,rfl,hs0,0,by omega,rfl,by rw [Zpc,Zl0]; rfl,by simp⟩
 ·clear hs0;rintro ⟨t,d⟩ H' ⟨rfl,h3,h7,h8,hs',i,hi,h9,km,hnd⟩;dsimp only at h3 h7 h8 h9;delta b33_1 Zn Zr Zk Zb Zc Za Zq Zm;have hz':∀ (h:i<l.length),l[i].size≤maxLen:=fun h=>hz _ (Zpk h)
  (repeat' (first | (refine ZfN ZgX (hz' (by assumption)) km (fun y hy=>?_) (fun hy=>?_)) | (refine ZfO ZgX (hz' (by assumption)) km ?_) | (simp only [↓Wj,↓Xx,↓Xy,↓Xm,↓XI,↓YS,↓Zkg,↓XA,↓Yo,↓Ys,↓ZgQ,↓Zb9,↓ZoY,↓YJ,↓YG,↓WP,↓YH,↓WQ,↓YI,↓YT,↓ZI,↓YV,↓YB,↓YR,↓Wc,↓Xv,↓WG,↓ZcH,↓XW,↓ZaL,boolV,ite_true,ite_false,Zo5,Zo7,true_and,ZpT,Zpv,decide_true,decide_false,Int.natCast_nonneg,ZpW,Nat.mul_one,Zpf,eq_self,and_self,We,Int.ofNat_lt,Zbc,Zeb,Zbo,Zbd,XF,Ze8,okV,Ym,Jp, *]) | (refine Yf ?_ ?_<;>intro) | (refine Ya rfl (fun _ _ _ h=>h) ?_) | (refine Zpi ?_ ?_) | (with_reducible refine And.intro ?_ ?_)))
  ·have hlt:i<l.length:=by assumption
   have hin:l[i]∈l.take i∧y=boolV true:=by
    unfold ZdH at hy;split at hy
    ·rename_i h; exact ⟨h,by cases hy; rfl⟩
    ·cases hy
   have hnn:decide l.Nodup=false:=by
    rw [decide_eq_false_iff_not];intro h
    have:=ZgY h (i+1)
    rw [YM hlt,Zeg] at this;exact this.2 hin.1
   obtain ⟨_,rfl⟩:=hin;clear hy
   (repeat' (first | (simp only [↓ZF,ZG,boolV,Zo5,Zo7, *]) | (refine ZM ?_)))
  ·have hlt:i<l.length:=by assumption
   rw [ZO (n:=(i:Int)+1) (by omega) (by omega)]
   have hni:l[i] ∉ l.take i:=by
    intro h;simp [ZdH,h] at hy
   exact ⟨i+1,by omega,rfl,by rw [YM hlt,← ZkI]; rfl,by rw [YM hlt,Zeg]; exact ⟨hnd,hni⟩⟩
  ·rw [ZO (n:=(i:Int)+1) (by omega) (by omega)];omega
  ·rw [ZpD (by omega)] at hnd;delta c33_1 Zq
   have:decide l.Nodup=true:=decide_eq_true hnd
   (repeat' (first | (simp only [↓ZF,ZG,Zo5,Zo7, *]) | (refine ZM ?_)))
end Go.PV.Ytglpmlbbaedbiaa
end
section
open List renaming take_append_drop→Zqi,length_cons→Zpx,mem_cons_of_mem→Zqe,append_nil→Zp2
namespace Go.PV
open Go.ChangeShapes Go.WideShapes Go.RowKit
abbrev old (w:World) (r:Nat):Prop:=r<w.heap.size
theorem sim_old (w:World):Sim (old w) AH.nil w:=⟨fun r b h=>by simp [AH.nil] at h,fun r b h=>by simp [AH.nil] at h,fun r h=>h⟩
section
variable {P:Program} {α β:Type} {t e:TypeId} {enc:α→List VV} {dom:α→Prop} {enc':β→List VV} {dom':β→Prop}
theorem RvL.split {S:Nat→Prop} {w:World} {xs ys:List VV} {cs:List Value} {k:Nat} (h1:RvL S w xs (cs.take k)) (h2:RvL S w ys (cs.drop k)):RvL S w (xs++ys) cs:=by
 have:=h1.append h2
 rwa [Zqi] at this
theorem ZeG {S:Nat→Prop} {w:World}:∀ {xs:List VV} {cs:List Value} {r o:Nat},RvL S w xs cs→(∀ j,j<cs.length→w.cell? ⟨r,o+j,none⟩=cs[j]?)→RvC S w xs r o
 | [],_,_,_,_,_=>trivial
 | x::xs,cs,r,o,h,hc=>by
   obtain ⟨u,us,rfl,h1,h2⟩:=h;refine ⟨⟨u,by simpa using hc 0 (by simp),h1⟩,ZeG h2 fun j hj=>?_⟩
   have:=hc (j+1) (by simpa using hj)
   rw [show o+1+j=o+(j+1) by omega];simpa using this
theorem RvC.append {S:Nat→Prop} {w:World}:∀ {xs ys:List VV} {r o:Nat},RvC S w xs r o→RvC S w ys r (o+xs.length)→RvC S w (xs++ys) r o
 | [],_,_,_,_,h=>h
 | x::xs,ys,r,o,h,h'=>⟨h.1,RvC.append h.2 (by rw [Zpx] at h'; rw [show o+1+xs.length=o+(xs.length+1) by omega]; exact h')⟩
end
section
variable {P:Program}
theorem Zl1 {W W':World} {S':Nat→Prop} {H':AH} (h:Step (old W) AH.nil W S' H' W'):Below W.heap.size W W':=⟨h.os,h.tape,h.output,h.size,fun k hk=>h.fr k hk rfl⟩
theorem ZdI {H:Type} {en:TypeId × Value→H} (hl:laidOutB P=true) {W W':World} (hb:Below W.heap.size W W') {sp:Nat→Bool}:∀ {ts:List TypeId} {vs:List Value} {ds:List (DataW H)} {ps:List MemPlace},
 (∀ t∈ts,P.readableRec t=true∧t<P.types.size)→DataW.TrodAll en P W 0 (fun _=>true) true ts vs ds ps→(∀ x∈ps,x.block<W.heap.size)→(∀ x∈ps,sp x.block=true)→DataW.TrodAll en P W' 0 sp true ts vs ds ps
 | [],vs,ds,ps,_,h,_,_=>by obtain ⟨rfl,rfl,rfl⟩:=trodAll_nil h; exact trodAll_mk0
 | t::ts,vs,ds,ps,hr,h,hlt,hsp=>by
   obtain ⟨v,vs',d,ds',p,q,rfl,rfl,rfl,h1,h2⟩:=trodAll_cons h;obtain ⟨r1,r2⟩:=hr t (List.mem_cons_self ..)
   exact trodAll_cons_mk (WideElems.Trod_stays hl r1 r2 h1 (fun x hx=>hb.same (hlt x (by simp [hx]))) (fun x hx=>hsp x (by simp [hx])))
    (ZdI hl hb (fun t ht=>hr t (Zqe _ ht)) h2 (fun x hx=>hlt x (by simp [hx])) (fun x hx=>hsp x (by simp [hx])))
theorem Zoi {H:Type} {en:TypeId × Value→H} {fn:Func} {s:ChangeSpec} {apart fresh handsOn again:Bool} {W W':World} {args:Array Value} {ds gs:List (DataW H)} {before:List MemPlace} {tb:TypeId}
 (hl:laidOutB P=true) (hr:(fn.params.toList.all fun t=>P.readableRec t && decide (t<P.types.size))=true) (hres:fn.resultTypes=#[tb]) (htb:P.underlying tb=some .bool) (hvars:s.vars=[])
 (hW:DataW.Whole en P fn.params.toList s.vars apart W args.toList ds gs before) (hs:s.fn H (ds++gs)={ results:=[.lit (.bool true)],args:=ds })
 (hb:Below W.heap.size W W'):s.post en P fn apart fresh handsOn again W args (.bool true) W':=by
 have hlt:=hW.lt;have hW':=hW;obtain ⟨p,q,hA,hV,rfl,hfz,hnd⟩:=hW
 have hq:gs=[]∧q=[]:=by
  have hV':DataW.TrodVars en P W (fun _=>true) s.vars gs q:=hV;rw [hvars] at hV';exact trodVars_none hV'
 obtain ⟨rfl,rfl⟩:=hq;simp only [Zp2] at hW' hs hfz hnd hlt
 have hrr:∀ t∈fn.params.toList,P.readableRec t=true∧t<P.types.size:=fun t ht=>by
  have:=List.all_eq_true.1 hr t ht
  simpa using this
 have hres':∀ (b:Nat) (sp:Nat→Bool) (hd:Bool),DataW.TrodAll en P W' b sp hd fn.resultTypes.toList ((Value.bool true).resultList fn.resultTypes.size) [.lit (.bool true)] []:=fun b sp hd=>by
  rw [hres];exact trodAll_cons_mk (p:=[]) (p':=[]) (shut_bool htb _) trodAll_mk0
 have hargs:∀ sp:Nat→Bool,(∀ x∈p,sp x.block=true)→DataW.TrodAll en P W' 0 sp true fn.params.toList args.toList ds p:=fun sp hsp=>ZdI hl hb hrr hA hlt hsp
 have hv:∀ sp:Nat→Bool,DataW.TrodVars en P W' sp s.vars [] []:=fun sp=>by rw [hvars]; exact rfl
 have hold:∀ x∈p,(fun b=>decide (b<W.heap.size)) x.block=true:=fun x hx=>by simpa using hlt x hx
 refine ⟨ds,[],p,[],p,[],hW',?_,?_,?_,hb.frame _,fun _=>⟨?_,_,_,([]++p)++[],⟨[]++p,[],trodAll_append (hargs (fun _=>true) fun _ _=>rfl) (hres' _ _ _),hv _,rfl,?_,?_⟩,?_⟩⟩
 ·simp only [Zp2,hs]; exact hres' _ _ _
 ·simp only [Zp2,hs]; exact hargs _ hold
 ·simp only [Zp2,hs]; exact hv _
 ·exact ok_one hres rfl (okWide_bool_mk htb _)
 ·intro b off hp;have hp':MemPlace.cell b off∈p:=by simpa using hp
  rw [hb.frozen (p:=⟨b,off,none⟩) (hlt _ hp')];exact hfz b off hp'
 ·intro ha
  have:=hnd ha
  simpa using this
 ·intro x hx _;simpa using hx
theorem Zl2 {H:Type} {en:TypeId × Value→H} {f:FuncId} {fn:Func} {s:ChangeSpec} {apart fresh handsOn again:Bool} {W:World} {args:Array Value} {ds gs:List (DataW H)} {before:List MemPlace} {tb:TypeId} {xs:List VV}
 (hl:laidOutB P=true) (hr:(fn.params.toList.all fun t=>P.readableRec t && decide (t<P.types.size))=true) (hres:fn.resultTypes=#[tb]) (htb:P.underlying tb=some .bool) (hvars:s.vars=[])
 (hW:DataW.Whole en P fn.params.toList s.vars apart W args.toList ds gs before) (hs:s.fn H (ds++gs)={ results:=[.lit (.bool true)],args:=ds })
 (hx:RvL (old W) W xs args.toList) (h:PureF P f xs (boolV true)):Calls P f args W fun e W'=>∃ v,e=.returned v∧s.post en P fn apart fresh handsOn again W args v W':=by
 refine (h AH.nil (old W) W args (sim_old W) hx).calls (Zky P none) |>.mono fun e W' hq=>?_
 cases e with
 | returned v =>
   obtain ⟨S',H',x,h1,h2,h3,h4,_⟩:=hq;simp only [VE.ret.injEq] at h4;subst h4;simp only [boolV,Rv] at h3;subst h3;exact ⟨_,rfl,Zoi hl hr hres htb hvars hW hs (Zl1 h1)⟩
 | panicked ch=>obtain ⟨S',H',h1,h2,h3,_⟩:=hq; simp at h3
 | outgrown=>exact hq.elim
end
end Go.PV
end
section
open List renaming drop_eq_nil_of_le→ZpC,getElem?_cons_zero→Zqa,map_cons→Zpp,getElem?_eq_getElem→ZpP,getElem_mem→Zpk
open Nat renaming le_refl→Zpl
namespace Go.PV
open Go.ChangeShapes Go.WideShapes Go.RowKit
mutual
def bulkD {H:Type}:DataW H→Nat
 | .lit (.string bytes)=>bytes.length+1
 | .lit _=>1
 | .nil=>1
 | .ptr d=>bulkD d+1
 | .slice elems spare=>bulkA elems+bulkA spare+1
 | .agg parts=>bulkA parts+1
 | .iface _ d=>bulkD d+1
 | .map entries=>bulkE entries+1
 | .held _=>1
def bulkA {H:Type}:List (DataW H)→Nat
 | []=>0
 | d::r=>bulkD d+bulkA r
def bulkE {H:Type}:List (Lit × DataW H)→Nat
 | []=>0
 | x::r=>bulkX x+bulkE r
def bulkX {H:Type}:Lit × DataW H→Nat
 | (.string bytes,d)=>bytes.length+bulkD d+1
 | (_,d)=>bulkD d+1
end
def RdN (n:Nat) (P:Program) (t:TypeId) {α:Type} (enc:α→List VV) (dom:α→Prop) (msr:α→Nat):Prop :=
 ∀ (H:Type) (en:TypeId × Value→H) (w:World) (base:Nat) (spare:Nat→Bool) (held:Bool) (fuel:Nat) (cs:List Value) (d:DataW H) (ps:List MemPlace),
   DataW.trod en P w base spare held fuel t cs=some (d,ps)→bulkD d≤n→∃ a,dom a∧msr a≤bulkD d∧RvL (old w) w (enc a) cs
def RdNFs (n:Nat) (P:Program) (fs:List Field) (off tot:Nat) {α:Type} (enc:α→List VV) (dom:α→Prop) (msr:α→Nat):Prop :=
 ∀ (H:Type) (en:TypeId × Value→H) (w:World) (base:Nat) (spare:Nat→Bool) (held:Bool) (k:Nat) (cs:List Value) (xs:List (DataW H × List MemPlace)),
   cs.length=tot→xs.length=fs.length→(∀ (i:Nat) (f:Field),fs[i]?=some f→DataW.trod en P w base spare held k f.type ((cs.drop f.offset).take (P.cellsOf f.type))=xs[i]?) →
   bulkA (xs.map (·.1))≤n→∃ a,dom a∧msr a≤bulkA (xs.map (·.1))∧RvL (old w) w (enc a) (cs.drop off)
theorem Zdc {H:Type} (d:DataW H):1≤bulkD d:=by
 cases d with
 | lit l=>cases l<;>simp [bulkD]
 | _=>simp [bulkD]
section
variable {n:Nat} {P:Program} {α β:Type} {t e:TypeId} {enc:α→List VV} {dom:α→Prop} {msr:α→Nat} {enc':β→List VV} {dom':β→Prop} {msr':β→Nat}
theorem ZdJ (g:α→β) (h:RdN n P t enc dom msr) (h1:∀ a,enc' (g a)=enc a) (h2:∀ a,dom a→dom' (g a)) (h3:∀ a,msr' (g a)≤msr a):RdN n P t enc' dom' msr':=by
 intro H en w base spare held fuel cs d ps ht hw;obtain ⟨a,ha,hm,hr⟩:=h H en w base spare held fuel cs d ps ht hw;exact ⟨g a,h2 a ha,Nat.le_trans (h3 a) hm,by rw [h1]; exact hr⟩
theorem JO:RdN 0 P t enc dom msr:=by
 intro H en w base spare held fuel cs d ps ht hw
 have:=Zdc d
 omega
theorem ZjU {k:IntKind} (ht:P.underlying t=some (.int k)):RdN n P t (fun n:Int=>[.lit (.int k n)]) (fun n=>(Lit.int k n).wf=true) (fun _=>1):=by
 intro H en w base spare held fuel cs d ps h _;obtain ⟨m,rfl,_,hw⟩:=DataW.trod_int ht h;exact ⟨m,hw,Zdc d,_,[],rfl,rfl,rfl⟩
theorem rdn_bool (ht:P.underlying t=some .bool):RdN n P t (fun b:Bool=>[VV.lit (.bool b)]) (fun _=>True) (fun _=>1):=by
 intro H en w base spare held fuel cs d ps h _;obtain ⟨b,rfl,_⟩:=DataW.trod_bool ht h;exact ⟨b,trivial,Zdc d,_,[],rfl,rfl,rfl⟩
theorem Zcd (ht:P.underlying t=some .string):RdN n P t (fun s:ByteArray=>[VV.lit (.string s)]) (fun _=>True) (fun s=>s.size+1):=by
 intro H en w base spare held fuel cs d ps h hw;obtain ⟨s,rfl,hx,hm⟩:=DataW.trod_string ht h;simp only [Prod.mk.injEq] at hx;obtain ⟨rfl,rfl⟩:=hx;refine ⟨s,trivial,?_,_,[],rfl,rfl,rfl⟩;simp only [bulkD,Array.length_toList];exact Zpl _
theorem ZaQ (tot:Nat):RdNFs n P [] tot tot (fun _:Unit=>[]) (fun _=>True) (fun _=>0):=by
 intro H en w base spare held k cs xs hl _ _ _;refine ⟨(),trivial,Nat.zero_le _,?_⟩;rw [ZpC (by omega)];rfl
theorem YZ {f:Field} {fs:List Field} {off tot k:Nat} (ho:f.offset=off) (hk:P.cellsOf f.type=k) (h1:RdN n P f.type enc dom msr) (h2:RdNFs n P fs (off+k) tot enc' dom' msr') :
 RdNFs n P (f::fs) off tot (fun p:α × β=>enc p.1++enc' p.2) (fun p=>dom p.1∧dom' p.2) (fun p=>msr p.1+msr' p.2):=by
 intro H en w base spare held m cs xs hl hx hr hw;cases xs with
 | nil=>simp at hx
 | cons x xs =>
   have h0:=hr 0 f (by simp);simp only [Zqa] at h0;simp only [Zpp,bulkA] at hw ⊢;obtain ⟨a,ha,hma,hra⟩:=h1 H en w base spare held m _ x.1 x.2 h0 (by omega);obtain ⟨b,hb,hmb,hrb⟩:=h2 H en w base spare held m cs xs hl (by simpa using hx) (fun i f hf=>by simpa using hr (i+1) f (by simpa using hf)) (by omega);refine ⟨(a,b),⟨ha,hb⟩,by show msr a+msr' b≤_; omega,RvL.split (k:=k) ?_ ?_⟩
   ·rw [ho,hk] at hra; exact hra
   ·rw [List.drop_drop]; exact hrb
theorem JU {fs:Array Field} {tot:Nat} (ht:P.underlying t=some (.struct fs)) (hc:P.cellsOf t=tot) (h:RdNFs n P fs.toList 0 tot enc dom msr):RdN (n+1) P t enc dom (fun a=>msr a+1):=by
 intro H en w base spare held fuel cs d ps hr hw;obtain ⟨xs,k,_,hx,hl,hxl,hf⟩:=DataW.trod_struct ht hr;simp only [Prod.mk.injEq] at hx;obtain ⟨rfl,rfl⟩:=hx;simp only [bulkD] at hw ⊢;obtain ⟨a,ha,hm,hra⟩:=h H en w base spare held k cs xs (by rw [hl,hc]) (by simpa using hxl) (fun i f hi=>hf i f (by simpa using hi)) (by omega);exact ⟨a,ha,by show msr a+1≤_; omega,by simpa using hra⟩
theorem ZgZ {S:Nat→Prop} {w:World} {k r:Nat} (hl:∀ a,(enc a).length=k):∀ (bs:List Nat) (o:Nat),(∀ i (h:i<bs.length),∃ a,dom a∧msr a≤bs[i]∧RvC S w (enc a) r (o+i * k))→∃ l,l.length=bs.length∧(∀ a∈l,dom a)∧(l.map msr).sum≤bs.sum∧RvC S w (encC enc l) r o
 | [],_,_=>⟨[],rfl,by simp,by simp,trivial⟩
 | b::bs,o,h=>by
   obtain ⟨a,ha,hm,hr⟩:=h 0 (by simp)
   obtain ⟨l,hn,hd,hs,hrl⟩:=ZgZ hl bs (o+k) fun i hi=>by
    obtain ⟨b,hb,hmb,hrb⟩:=h (i+1) (by simpa using hi);exact ⟨b,hb,by simpa using hmb,by rw [Nat.succ_mul] at hrb; rw [show o+k+i * k=o+(i * k+k) by omega]; exact hrb⟩
   refine ⟨a::l,by simp [hn],?_,?_,?_⟩
   ·intro b hb;rcases List.mem_cons.1 hb with rfl | hb
    ·exact ha
    ·exact hd b hb
   ·simp only [Zpp,List.sum_cons];simp only [List.getElem_cons_zero] at hm;omega
   ·rw [Yh];exact RvC.append (by simpa using hr) (by rw [hl]; exact hrl)
theorem ZiS {H:Type}:∀ (l:List (DataW H)),bulkA l=(l.map bulkD).sum
 | []=>rfl
 | d::l=>by rw [bulkA,ZiS l]; rfl
theorem ZiT {H:Type} {d:DataW H}:∀ {l:List (DataW H)},d∈l→bulkD d≤bulkA l
 | x::l,h=>by
   rw [bulkA];rcases List.mem_cons.1 h with rfl | h
   ·omega
   ·have:=ZiT h; omega
theorem Zoj {k:Nat} (ht:P.underlying t=some (.slice e)) (hc:P.cellsOf e=k) (hk:0<k) (h:RdN n P e enc dom msr) (hl:∀ a,(enc a).length=k) :
 RdN (n+1) P t (fun l=>[encS enc l]) (fun l=>∀ a∈l,dom a) (fun l=>(l.map msr).sum+1):=by
 intro H en w base spare held fuel cs d ps hr hw;rcases DataW.trod_slice ht hr with ⟨rfl,_⟩ | ⟨a,len,cap,elems,rest,n',_,rfl,hx,_,hlc,hcm,hlen,hel,_,_⟩
 ·exact ⟨[],by simp,by simpa using Zdc d,_,[],rfl,⟨none,0,rfl,⟨by simp,by simp⟩,by simp⟩,rfl⟩
 ·simp only [Prod.mk.injEq] at hx;obtain ⟨rfl,rfl⟩:=hx;simp only [bulkD] at hw ⊢
  have each:∀ i,(hi:i<elems.length)→∃ x,dom x∧msr x≤bulkD elems[i].1∧(a.add (i * k)).spot=none∧a.block<w.heap.size∧RvC (old w) w (enc x) a.block (a.off+i * k):=by
   intro i hi';have hi:i<len:=by omega
   have h1:=hel i hi;rw [hc] at h1;rw [ZpP hi',Option.bind_eq_some_iff] at h1;obtain ⟨cs',hcs,hd⟩:=h1;have hmem:bulkD elems[i].1≤bulkA (elems.map (·.1)):=ZiT (List.mem_map.2 ⟨elems[i],Zpk _,rfl⟩);obtain ⟨x,hx,hmx,hrx⟩:=h H en w base spare held n' cs' elems[i].1 elems[i].2 hd (by omega);obtain ⟨hblk,hcl,hcell⟩:=World.cells?_some hcs
   have hsp:∀ j,j<k→((a.add (i * k)).add j)=⟨a.block,a.off+i * k+j,none⟩:=by
    intro j hj;have h2:=hcell j hj;rw [ZpP (by omega)] at h2;have h3:=World.cell?_spot h2;unfold Addr.add at h3 ⊢;obtain ⟨ab,ao,ax⟩:=a;split at h3<;>rename_i hj0<;>split at h3<;>rename_i hi0<;>simp_all
   have h2:=hcell 0 hk;rw [ZpP (by omega)] at h2;have h3:=World.cell?_spot h2;refine ⟨x,hx,hmx,by simpa [Addr.add] using h3,?_,ZeG hrx fun j hj=>?_⟩
   ·have:=World.block_lt_of_cell? w _ h2
    rw [hsp 0 hk] at this;exact this
   ·rw [← hsp j (by omega)]; exact hcell j (by omega)
  obtain ⟨l,hn,hd,hs,hrl⟩:=ZgZ (S:=old w) (w:=w) (r:=a.block) (dom:=dom) (msr:=msr) hl (elems.map fun x=>bulkD x.1) a.off fun i hi=>by
   obtain ⟨x,h1,h1',_,_,h2⟩:=each i (by simpa using hi);exact ⟨x,h1,by simpa using h1',h2⟩
  have hle:elems.length=len:=by omega
  have hn':l.length=len:=by rw [hn,List.length_map,hle]
  refine ⟨l,hd,?_,_,[],rfl,⟨some a,cap,by rw [hn'],⟨by omega,by simp⟩,fun hp=>?_⟩,rfl⟩
  ·have e1:bulkA (elems.map (·.1))=(elems.map fun x=>bulkD x.1).sum:=by rw [ZiS,List.map_map]; rfl
   show (l.map msr).sum+1≤_;omega
  ·obtain ⟨x,_,_,h3,h4,_⟩:=each 0 (by omega);have e0:a.add (0 * k)=a:=by simp [Addr.add]
   rw [e0] at h3;obtain ⟨ab,ao,ax⟩:=a;exact ⟨ab,ao,by simp at h3; rw [h3],h4,hrl⟩
theorem ZiU {H:Type} {en:TypeId × Value→H} {w:World} {base:Nat} {spare:Nat→Bool} {held:Bool} {v:Value} {d:DataW H} {ps:List MemPlace} (h:RdN n P t enc dom msr)
 (ht:DataW.Trod en P w base spare held t v d ps) (hw:bulkD d≤n):∃ a,dom a∧msr a≤bulkD d∧RvL (old w) w (enc a) v.cells.toList:=by
 obtain ⟨fuel,hf⟩:=ht;exact h H en w base spare held fuel _ d ps hf hw
end
end Go.PV
end
section
open List renaming map_cons→Zpp
open Nat renaming le_refl→Zpl,lt_succ_self→Zp8
set_option maxRecDepth 20000
namespace Go.PV.Ytglpmlbbaedbiaa
open Go Go.Proofs Go.ChangeShapes Go.WideShapes Go.RowKit
mutual
def Ex.wt:Ex→Nat
 | .mk _ n ks=>4+n.size+exsWt ks
def exsWt:List Ex→Nat
 | []=>0
 | k::ks=>k.wt+exsWt ks
end
theorem ZhI:∀ l:List Ex,exsWt l=(l.map Ex.wt).sum
 | []=>rfl
 | k::l=>by rw [exsWt,ZhI l]; rfl
mutual
theorem Ex.sz_wt:∀ e:Ex,e.sz≤e.wt
 | .mk _ n ks=>by have:=Zln ks; rw [Ex.sz,Ex.wt]; omega
theorem Zln:∀ l:List Ex,exsSz l≤exsWt l
 | []=>Zpl _
 | k::l=>by have:=Ex.sz_wt k; have:=Zln l; rw [exsSz,exsWt]; omega
end
mutual
def Pa.wt:Pa→Nat
 | .mk _ n ks=>4+n.size+pasWt ks
def pasWt:List Pa→Nat
 | []=>0
 | k::ks=>k.wt+pasWt ks
end
theorem Ze9:∀ l:List Pa,pasWt l=(l.map Pa.wt).sum
 | []=>rfl
 | k::l=>by rw [pasWt,Ze9 l]; rfl
mutual
theorem Pa.sz_wt:∀ e:Pa,e.sz≤e.wt
 | .mk _ n ks=>by have:=Zfa ks; rw [Pa.sz,Pa.wt]; omega
theorem Zfa:∀ l:List Pa,pasSz l≤pasWt l
 | []=>Zpl _
 | k::l=>by have:=Pa.sz_wt k; have:=Zfa l; rw [pasSz,pasWt]; omega
end
mutual
theorem Pa.names_wt:∀ (p:Pa),∀ s∈p.names,s.size≤p.wt
 | .mk c n ks,s,h=>by
   rw [Pa.names] at h;rw [Pa.wt];split at h
   ·have:=ZcJ ks s h; omega
   ·simp at h; subst h; omega
theorem ZcJ:∀ (l:List Pa),∀ s∈ZV l,s.size≤pasWt l
 | [],s,h=>by simp [ZV] at h
 | p::l,s,h=>by
   rw [ZV] at h;rw [pasWt];rcases List.mem_append.1 h with h | h
   ·have:=Pa.names_wt p s h; omega
   ·have:=ZcJ l s h; omega
end
def clWt (c:Cl):Nat:=pasWt c.pats+c.body.wt+2
def fuWt (f:Fu):Nat:=f.name.size+(f.cls.map clWt).sum+4
theorem ZmT {α:Type} {f g:α→Nat} (h:∀ x,f x≤g x):∀ l:List α,(l.map f).sum≤(l.map g).sum
 | []=>Zpl _
 | x::l=>by have:=ZmT h l; have:=h x; simp only [Zpp,List.sum_cons]; omega
theorem ZnD (f:Fu):fuSz f≤fuWt f:=by
 have:clsSz f.cls≤(f.cls.map clWt).sum:=ZmT (fun c=>by have:=Zfa c.pats; have:=c.body.sz_wt; unfold clSz clWt; omega) f.cls
 unfold fuSz fuWt; omega
theorem JV {n:Nat} {P:Program} {α:Type} {t e:TypeId} {enc:α→List VV} {dom:α→Prop} {msr:α→Nat} {k:Nat} (ht:P.underlying t=some (.slice e)) (hc:P.cellsOf e=k) (hk:0<k) (h:∀ m,m<n→RdN m P e enc dom msr) (hl:∀ a,(enc a).length=k) :
 RdN n P t (fun l=>[encS enc l]) (fun l=>∀ a∈l,dom a) (fun l=>(l.map msr).sum+1):=by
 cases n with
 | zero=>exact JO
 | succ n=>exact Zoj ht hc hk (h n (Zp8 _)) hl
theorem rdEx:∀ n m,m≤n→RdN m Try.prog 28 exE (fun _=>True) Ex.wt:=by
 intro n
 induction n with
 | zero=>intro m hm; obtain rfl:m=0:=by omega
         exact JO
 | succ n ih =>
   intro m hm;cases m with
   | zero=>exact JO
   | succ m =>
     have hs:RdN m Try.prog 25 (fun l:List Ex=>[encS exE l]) (fun l=>∀ a∈l,True) (fun l=>(l.map Ex.wt).sum+1):=JV Try.underlying25 (by kernel_rfl) (by omega) (fun i hi=>ih i (by omega)) Zbv;refine ZdJ (fun p:Int × ByteArray × List Ex × Unit=>Ex.mk p.1 p.2.1 p.2.2.1) (JU (tot:=3) Try.underlying28 (by kernel_rfl) (YZ (k:=1) rfl (by kernel_rfl) (ZjU Try.underlying3) (YZ (k:=1) rfl (by kernel_rfl) (Zcd Try.underlying9) (YZ (k:=1) rfl (by kernel_rfl) hs (ZaQ 3))))) ?_ (fun _ _=>trivial) ?_
     ·intro p; rw [WU]; rfl
     ·intro p; rw [Ex.wt,ZhI]; omega
theorem rdPa:∀ n m,m≤n→RdN m Try.prog 50 paE (fun _=>True) Pa.wt:=by
 intro n
 induction n with
 | zero=>intro m hm; obtain rfl:m=0:=by omega
         exact JO
 | succ n ih =>
   intro m hm;cases m with
   | zero=>exact JO
   | succ m =>
     have hs:RdN m Try.prog 44 (fun l:List Pa=>[encS paE l]) (fun l=>∀ a∈l,True) (fun l=>(l.map Pa.wt).sum+1):=JV Try.underlying44 (by kernel_rfl) (by omega) (fun i hi=>ih i (by omega)) ZjR;refine ZdJ (fun p:Bool × ByteArray × List Pa × Unit=>Pa.mk p.1 p.2.1 p.2.2.1) (JU (tot:=3) Try.underlying50 (by kernel_rfl) (YZ (k:=1) rfl (by kernel_rfl) (rdn_bool Try.underlying4) (YZ (k:=1) rfl (by kernel_rfl) (Zcd Try.underlying9) (YZ (k:=1) rfl (by kernel_rfl) hs (ZaQ 3))))) ?_ (fun _ _=>trivial) ?_
     ·intro p; rw [Zko]; rfl
     ·intro p; rw [Pa.wt,Ze9]; omega
theorem rdCl (n:Nat):RdN n Try.prog 46 clE (fun _=>True) clWt:=by
 cases n with
 | zero=>exact JO
 | succ n =>
   have hs:RdN n Try.prog 44 (fun l:List Pa=>[encS paE l]) (fun l=>∀ a∈l,True) (fun l=>(l.map Pa.wt).sum+1):=JV Try.underlying44 (by kernel_rfl) (by omega) (fun i hi=>rdPa i i (Zpl _)) ZjR;refine ZdJ (fun p:List Pa × Ex × Unit=>(⟨p.1,p.2.1⟩:Cl)) (JU (tot:=4) Try.underlying46 (by kernel_rfl) (YZ (k:=1) rfl (by kernel_rfl) hs (YZ (k:=3) rfl (by kernel_rfl) (rdEx n n (Zpl _)) (ZaQ 4)))) ?_ (fun _ _=>trivial) ?_
   ·intro p; show clE _=_++(exE _++_); rw [WU]; rfl
   ·intro p; show pasWt p.1+p.2.1.wt+2≤_; rw [Ze9]; omega
theorem rdFu (n:Nat):RdN n Try.prog 24 fuE (fun _=>True) fuWt:=by
 cases n with
 | zero=>exact JO
 | succ n =>
   have hs:RdN n Try.prog 22 (fun l:List Cl=>[encS clE l]) (fun l=>∀ a∈l,True) (fun l=>(l.map clWt).sum+1):=JV (k:=4) Try.underlying22 (by kernel_rfl) (by omega) (fun i hi=>rdCl i) (fun _=>rfl);refine ZdJ (fun p:ByteArray × Int × List Cl × Unit=>(⟨p.1,p.2.1,p.2.2.1⟩:Fu)) (JU (tot:=3) Try.underlying24 (by kernel_rfl) (YZ (k:=1) rfl (by kernel_rfl) (Zcd Try.underlying9) (YZ (k:=1) rfl (by kernel_rfl) (ZjU Try.underlying3) (YZ (k:=1) rfl (by kernel_rfl) hs (ZaQ 3))))) ?_ (fun _ _=>trivial) ?_
   ·intro p; rfl
   ·intro p; show p.1.size+(p.2.2.1.map clWt).sum+4≤_; omega
end Go.PV.Ytglpmlbbaedbiaa
end
section
set_option maxRecDepth 20000
namespace Go.PV
open Go.ChangeShapes Go.WideShapes Go.RowKit
theorem ZeH {P:Program} {w:World} {r:Reach} {base:Nat} {v:Value} {t:TypeId} {fs:Array Field} (ht:P.underlying t=some (.struct fs)) (h:Value.okWide P w r base t v):∃ vs:Array Value,v=.agg vs∧v.cells.toList=vs.toList:=by
 obtain ⟨cs,rfl,_⟩:=okWide_struct ht h;exact ⟨cs,rfl,rfl⟩
theorem rv_agg {S:Nat→Prop} {w:World} {xs:List VV} {v:Value} (h:RvL S w xs v.cells.toList) (hv:∃ vs:Array Value,v=.agg vs∧v.cells.toList=vs.toList):Rv S w (.agg xs) v:=by
 obtain ⟨vs,e,hc⟩:=hv;exact ⟨vs,e,by rw [← hc]; exact h⟩
end Go.PV
namespace Go.Proofs.Ytglpmlbbaedbiaa
open Go.PV
mutual
theorem Zg0 {H:Type}:∀ d:DataW H,Rows.uptoBulk d=bulkD d
 | .lit l=>by cases l<;>rfl
 | .nil=>rfl
 | .ptr d=>by rw [Rows.uptoBulk,bulkD,Zg0 d]
 | .slice elems spare=>by rw [Rows.uptoBulk,bulkD,Za1 elems,Za1 spare]
 | .agg parts=>by rw [Rows.uptoBulk,bulkD,Za1 parts]
 | .iface _ d=>by rw [Rows.uptoBulk,bulkD,Zg0 d]
 | .map entries=>by rw [Rows.uptoBulk,bulkD,ZcE entries]
 | .held _=>rfl
theorem Za1 {H:Type}:∀ l:List (DataW H),Rows.uptoBulkAll l=bulkA l
 | []=>rfl
 | d::r=>by rw [Rows.uptoBulkAll,bulkA,Zg0 d,Za1 r]
theorem ZcE {H:Type}:∀ l:List (Lit × DataW H),Rows.uptoBulkEntries l=bulkE l
 | []=>rfl
 | x::r=>by rw [Rows.uptoBulkEntries,bulkE,Zjq x,ZcE r]
theorem Zjq {H:Type}:∀ x:Lit × DataW H,Rows.uptoBulkEntry x=bulkX x
 | (l,d)=>by cases l<;>simp only [Rows.uptoBulkEntry,bulkX,Zg0 d]
end
theorem small_of {H:Type} {l:List (DataW H)} (hk:Rows.uptoSmall H l=true):bulkA l≤1048576:=by
 have h:Rows.uptoBulkAll l≤1048576:=of_decide_eq_true hk
 rwa [Za1] at h
theorem own:ownKnob Try.prog.godebug=none:=by kernel_rfl
theorem laidOut:laidOutB Try.prog=true:=by kernel_rfl
end Go.Proofs.Ytglpmlbbaedbiaa
end
section
open Go.PV.AH renaming set_same→Zpc,set_none→Zpb,ne_of→Zo6
open Go.PV.GhV renaming forget→ZpB
open Go.PV.SubH renaming refl→Zpa,of_set→Zpi
open Int renaming toNat_natCast→ZpW,reduceNeg→Zp1
open List renaming take_of_length_le→ZpD,append_nil→Zp2,length_take→ZpX,drop→Zo9,replicate→ZpR,append_assoc→Zqc
open Nat renaming reduceLT→Zo7,reduceEqDiff→Zo5,reduceAdd→Zpd,reduceMul→ZpQ,reduceLeDiff→Zpo,lt_or_ge→ZpJ,le_refl→Zpl
open Option renaming map_none→ZpS,map_some→Zps
set_option maxRecDepth 20000
set_option maxHeartbeats 4000000
namespace Go.PV.Ytglpmlbbaedbiaa
open Go Go.Proofs
abbrev bdV (b:Bd):VV:=.agg (bdE b)
theorem bd_one (a:Bd):(bdE a).all VV.one=true:=rfl
theorem cloneBd {l:List Bd} (hl:l.length≤1099511627776) (hne:0<l.length) (H:AH):OwnF Try.prog 54 [bdsV l] H 102 4 l.length (encC bdE l):=by
 refine ZK fd54 (by simp) ?_;delta c54 Zq Za Zr Zl Zc
 (repeat' (first | (simp only [↓ZF,ZG,Zo7,reduceCtorEq,ZJ,undef, *])))
 refine Zkn und_96 fun b hb=>?_
 have hb:=hb hne;subst hb
 (repeat' (first | (simp only [↓ZF,ZG,boolV,Zo5,Zo7,Zpd,ZpQ,Zpo,reduceCtorEq,fillV,ZN,ZN,Zas,WF, *])))
 refine Ww Zas WF rfl (by omega) rfl (Zcm (enc:=bdE) (k:=4) (fun _=>rfl) H false l) (Zbb bd_one l) (by omega) (by omega) (fun h=>by omega) (fun _ v' H' ho=>?_)
 (repeat' (first | (simp only [↓ZF,ZG,Zo5,Zo7, *]) | (refine ZM ?_)))
 exact ⟨_,H,rfl,Zpa _,by simpa using ho⟩
theorem cloneBd0:PureF Try.prog 54 [bdsV []] (bdsV []):=by
 refine Wl.pure fun H=>?_
 refine ZK fd54 (by simp) ?_;delta c54 Zq Za Zr Zl Zc
 (repeat' (first | (simp only [↓ZF,ZG,Zo7,reduceCtorEq,ZJ,undef, *])))
 refine Zkn und_96 fun b hb=>?_
 (repeat' (first | (simp only [↓ZF,ZG,boolV,Zo5,Zo7,Zpd,ZpQ,Zpo,reduceCtorEq,fillV,ZN,ZN,Zas,WF, *]) | (refine Yp ?_ ?_<;>intro) | (refine ZM ?_)))
 ·exact ⟨_,rfl,GhV.nil H⟩
 ·refine Ww Zas WF rfl (by omega) rfl (Zcm (enc:=bdE) (k:=4) (fun _=>rfl) H false []) (Zbb bd_one _) (by simp) (by simp) (fun _=>?_) (fun h=>absurd rfl h)
  (repeat' (first | (simp only [↓ZF,ZG,Zo5,Zo7, *]) | (refine ZM ?_)))
  exact ⟨_,rfl,GhV.imm H⟩
theorem idxBd {l:List Bd} {v f:VV} {p:Bd→Bool} {H:AH} {K:VE→AH→Prop} (hv:SlR H v l.length (encC bdE l)) (hl:l.length≤1099511627776)
 (hf:∀ i (h:i<l.length),FnAt Try.prog f [bdV l[i]] (boolV (p l[i])) H) (hK:K (.ret (iV (idxF p l))) H):ZU Try.prog 76 [v,f] H K:=by
 refine ZK fd76 (by simp) ?_;delta c76 Zf Za Ze Zq
 (repeat' (first | (simp only [↓ZF,ZG,intV,Zo5,Zo7,reduceCtorEq,ZJ,undef, *]) | (refine hv.len (by simp [Zas]) ?_)))
 refine ZY (fun _ _ _ h=>h) (fun A H'=>H'=H∧A.d=[]∧A.t 0=v∧A.t 1=f∧A.t 7=iV l.length∧∃ i:Nat,i≤l.length∧A.t 8=iV i∧∀ j (h:j<l.length),j<i→p l[j]=false)
  (fun A _=>match A.t 8 with | .lit (.int _ i)=>((l.length:Int)-i).toNat | _=>0) ?_ ?_
 ·exact ⟨rfl,rfl,rfl,rfl,rfl,0,by simp,rfl,by simp⟩
 ·rintro ⟨t,d⟩ H' ⟨rfl,rfl,h0,h1,h7,i,hi,h8,hj⟩;dsimp only at h0 h1 h7 h8
  have hld:∀ (h:i<l.length),ldV 4 true ((encC bdE l).drop ((i:Int).toNat * 4))=some (bdV l[i]):=fun h=>by
   rw [ZpW,ZjS h]; exact ZmR _ _ _ _ _
  delta b76_1 Zn Zr Za Zc Zk Zb Zq Zm
  (repeat' (first | (simp only [↓ZF,ZG,boolV,Zo5,Zo7,reduceCtorEq, *]) | (refine Yf ?_ ?_<;>intro) | (refine Yp ?_ ?_<;>intro) | (refine ZM ?_) | (refine Ya rfl (fun _ _ _ h=>h) ?_) | (refine hv.index Zas (by omega) (by omega) (fun a ha=>?_)) | (refine ha.load ZjK (x:=bdV (l[i]'(by omega))) (hld (by omega)) ?_) | (refine hf _ _ _ ?_) | (with_reducible refine And.intro ?_ ?_)))
  ·have hb:i<l.length:=by assumption
   rw [← JT hb (by assumption) (fun j h=>hj j (by omega) h)];exact hK
  ·have hb:i<l.length:=by assumption
   rw [ZO (by omega) (by omega)];refine ⟨i+1,by omega,by simp,fun j h h'=>?_⟩;rcases ZpJ j i with h2 | h2
   ·exact hj j h h2
   ·obtain rfl:j=i:=by omega
    assumption
  ·rw [ZO (by omega) (by omega)];omega
  ·delta c76_1 Zq
   (repeat' (first | (simp only [↓ZF,ZG,Zo5,Zo7,Zp1, *]) | (refine ZM ?_)))
   rw [show (-1:Int)=idxF p l from (ZaO fun j h=>hj j h (by omega)).symm];exact hK
theorem WA {α:Type} (p:α→Bool) (l:List α):(idxF p l = -1∧∀ x∈l,p x=false)∨∃ i,∃ h:i<l.length,idxF p l=i∧p l[i]=true∧∀ j (h:j<i),p l[j]=false:=by
 unfold idxF;cases h:l.findIdx? p with
 | none=>exact .inl ⟨rfl,by simpa using h⟩
 | some i =>
   rw [List.findIdx?_eq_some_iff_getElem] at h;obtain ⟨hi,hp,hj⟩:=h;exact .inr ⟨i,hi,rfl,hp,fun j h=>by simpa using hj j h⟩
theorem Zf4 {α:Type} {p:α→Bool} {l:List α} (h:∀ x∈l,p x=false):l.filter (fun x=>!p x)=l:=List.filter_eq_self.2 fun x hx=>by simp [h x hx]
theorem JQ {α:Type} {p:α→Bool} {l:List α} {j:Nat} (h:j<l.length):(l.take (j+1)).filter (fun x=>!p x)=(l.take j).filter (fun x=>!p x)++(if p l[j]=true then [] else [l[j]]):=by
 rw [YM h,List.filter_append]
 congr 1
 by_cases hp:p l[j]=true<;>simp [hp]
theorem bd_set {l:List Bd} {i:Nat} {x:Bd} (h:i<l.length):setAt (encC bdE l) (i * 4) [sV x.1,iV x.2.op,sV x.2.name,encS exE x.2.kids]=encC bdE (l.set i x):=Zec (enc:=bdE) (k:=4) (fun _=>rfl) x h
theorem bd_set' {l:List Bd} {i:Nat} {x:Bd} (h:i<l.length):((((encC bdE l).set (i * 4) (sV x.1)).set (i * 4+1) (iV x.2.op)).set (i * 4+1+1) (sV x.2.name)).set (i * 4+1+1+1) (encS exE x.2.kids)=encC bdE (l.set i x):=bd_set h
theorem ZfP {α:Type} {enc:α→List VV} {k:Nat} (hk:∀ x,(enc x).length=k):∀ (l:List α) (i:Nat),(encC enc l).take (i * k)=encC enc (l.take i)
 | [],i=>by simp [encC]
 | x::l,0=>by simp [encC]
 | x::l,i+1=>by
   rw [Yh,List.take_succ_cons,Yh,List.take_append,hk,Nat.succ_mul,ZpD (by rw [hk]; omega),show i * k+k-k=i * k from by omega,ZfP hk l i]
theorem delBd {l:List Bd} {v f:VV} {p:Bd→Bool} {H H1:AH} {K:VE→AH→Prop} (ho:OwnX H H1 102 4 v l.length (encC bdE l)) (hne:0<l.length) (hl:l.length≤1099511627776)
 (hf:∀ H',SubH H H'→∀ b,FnAt Try.prog f [bdV b] (boolV (p b)) H') (hK:K (.ret (bdsV (l.filter fun b=>!p b))) H):ZU Try.prog 53 [v,f] H1 K:=by
 refine Zof ?_ hK;clear hK;have hrd:=ho.read;have hs1:=ho.sub;refine ZK fd53 (by simp) ?_;delta c53 Zq Za Zo Zr Zc Zm;rcases WA p l with ⟨h1,h2⟩ | ⟨i0,hi0,h1,h2,h3⟩
 ·have hgh:=GhV.own ho;rw [Zf4 h2]
  (repeat' (first | (simp only [↓ZF,ZG,Zo5,Zo7,reduceCtorEq,ZJ,undef,Zp1,en_76, *]) | (refine ZM ?_) | (refine idxBd (l:=l) (p:=p) hrd hl (fun i h=>hf _ hs1 _) ?_)))
  exact ⟨_,rfl,hgh⟩
 ·rcases ho with ⟨_,h4,_⟩ | ⟨g,c,sp,rfl,hg0,rfl,q1,q2,q3,q4⟩
  ·omega
  have q1':(encC bdE l).length=l.length * 4:=q1;have hi0':¬ ((i0:Int) = -1):=by omega
  have w1:IntKind.i64.wrap ((i0:Int)+1)=((i0+1:Nat):Int):=by rw [ZO (by omega) (by omega)]; simp
  (repeat' (first | (simp only [↓ZF,ZG,Zo5,Zo7,reduceCtorEq,ZJ,undef,Zp1,en_76, *]) | (refine idxBd (l:=l) (p:=p) hrd hl (fun i h=>hf _ hs1 _) ?_)))
  refine ZY (fun _ _ _ h=>h) (fun A H'=>A.d=[]∧A.t 0=.lit (.slice (some ⟨g,0,none⟩) l.length c)∧A.t 1=f∧∃ (i j:Nat) (m:List Bd),i<j∧j≤l.length∧A.t 5=iV i∧A.t 6=iV j∧m.length=l.length∧m.take i=(l.take j).filter (fun b=>!p b)∧m.drop j=l.drop j∧SubH H H'∧H' g=some (.cells 102 (encC bdE m) sp))
   (fun A _=>match A.t 6 with | .lit (.int _ i)=>((l.length:Int)-i).toNat | _=>0) ?_ ?_
  ·refine ⟨rfl,rfl,rfl,i0,i0+1,l,by omega,by omega,rfl,rfl,rfl,?_,rfl,hs1,Zpc _ _ _⟩;rw [JQ hi0,if_pos h2,Zp2,Zf4];intro x hx;obtain ⟨k,hk,rfl⟩:=List.getElem_of_mem hx;rw [List.getElem_take];exact h3 k (by rw [ZpX] at hk; omega)
  ·clear h1 h2 h3 hi0' w1 hrd hs1;rintro ⟨t,d⟩ H' ⟨rfl,h0,h1,i,j,m,hij,hj,h5,h6,hm,hmt,hmd,hs,kg⟩;dsimp only at h0 h1 h5 h6
   have hmj:∀ (h:j<l.length),(encC bdE m).drop (j * 4)=sV l[j].1::iV l[j].2.op::sV l[j].2.name::encS exE l[j].2.kids::encC bdE (m.drop (j+1)):=fun h=>by
    have e:m[j]'(by omega)=l[j]:=by
     have:=congrArg (·[0]?) hmd
     simpa [h,hm] using this
    rw [ZjS (by omega),e]
   delta b53_1 Za Ze Zn Zr Zk Zb Zi Zg Zq Zm Zc
   (repeat' (first | (simp only [↓ZF,ZG,ptrV,intV,boolV,Zo5,Zo7,Zpd,reduceCtorEq,setAt,Zo9,ZjK,Znh,WF,Zas, *]) | (refine Yf ?_ ?_<;>intro) | (refine Yp ?_ ?_<;>intro) | (refine Ya rfl (fun _ _ _ h=>h) ?_) | (refine ZH fun zr zh=>?_; have zg:=zh; (try simp only [Zpb] at zg); (try have zn_kg:=Zo6 kg zh); (try have zn_kg:=Zo6 kg zg.2); (try have zn_kg:=Zo6 kg zg.2.2)) | (refine Zpi ?_ ?_) | (exact SubH.none (by assumption) (by assumption)) | (refine hf _ ?_ _ _ ?_) | (with_reducible refine And.intro ?_ ?_)))
   ·omega
   ·have:=XU (enc:=bdE) (k:=4) (fun _=>rfl) m
    omega
   ·have hb:j<l.length:=by assumption
    have hp:p l[j]=false:=by simpa using (by assumption:(!p l[j])=true)
    rw [ZO (n:=(i:Int)+1) (by omega) (by omega),ZO (n:=(j:Int)+1) (by omega) (by omega),bd_set' (by omega)];refine ⟨i+1,j+1,m.set i l[j],by omega,by omega,rfl,rfl,by simpa using hm,?_,?_,?_,rfl⟩
    ·rw [JQ hb,if_neg (by simp [hp]),← hmt,YM (by simp; omega),List.take_set_of_le (Zpl _)];simp
    ·have:=congrArg (Zo9 1) hmd
     rw [List.drop_drop,List.drop_drop] at this;rw [List.drop_set_of_lt (by omega),this]
    ·exact (hs.of_set (hs.none (by assumption))).of_set hg0
   ·rw [ZO (n:=(j:Int)+1) (by omega) (by omega)];omega
   ·have hb:j<l.length:=by assumption
    have hp:p l[j]=true:=by simpa using (by assumption:(!p l[j])=false)
    rw [ZO (n:=(j:Int)+1) (by omega) (by omega)];refine ⟨i,j+1,m,by omega,by omega,rfl,rfl,hm,?_,?_,?_,rfl⟩
    ·rw [JQ hb,if_pos hp,hmt,Zp2]
    ·have:=congrArg (Zo9 1) hmd
     rw [List.drop_drop,List.drop_drop] at this;exact this
    ·exact hs.of_set (hs.none (by assumption))
   ·rw [ZO (n:=(j:Int)+1) (by omega) (by omega)];omega
   ·have hje:j=l.length:=by omega
    subst hje;rw [ZpD (Zpl _)] at hmt;delta c53_1 Za Zq Zr Zc;clear hmj hmd;have hci:¬ c=i:=by omega
    have hni:¬ l.length-i=0:=by omega
    have hlt:i<l.length:=by omega
    (repeat' (first | (simp only [↓ZF,ZG,↓s_clear,Zo5,Zo7,Zpd,ZpQ,reduceCtorEq,YC,ZpS,Zps,Xj,idxV,idxOk,imp_self,Zdq,WF,Zas, *]) | (refine ZM ?_) | (with_reducible refine And.intro ?_ ?_)))
    any_goals omega
    ·have:=XU (enc:=bdE) (k:=4) (fun _=>rfl) m
     omega
    ·exact fun h=>trivial
    ·have e0:(if c=0 then 0 else 0)=0:=by split<;>rfl
     rw [e0,Nat.sub_zero,Nat.sub_zero];have em:=XU (enc:=bdE) (k:=4) (fun _=>rfl) m;have ez:((ZpR (l.length-i) [Value.string { data:=#[] },Value.int IntKind.i64 0,Value.string { data:=#[] },Value.slice none 0 0]).flatten.map VV.lit).length=(l.length-i) * 4:=by simp
     rw [ZbJ _ _ _ (by rw [ez]; omega),ZfP (enc:=bdE) (k:=4) (fun _=>rfl),hmt,Zqc];refine ⟨_,rfl,(GhV.slice (Zpc _ _ _) (by omega)).trans ((GhV.trunc _ _ _ _ _).trans ?_)⟩;have el:(l.filter fun b=>!p b).length=i:=by rw [← hmt,ZpX]; omega
     show GhV _ (.slice false i (encC bdE (l.filter fun b=>!p b))) H (.slice false (l.filter fun b=>!p b).length _);rw [el];refine ZpB (SubH.del ?_ hg0) _;exact hs.of_set hg0
end Go.PV.Ytglpmlbbaedbiaa
end
section
open Bool renaming false_eq_true→ZpT
open Go.PV.Hold renaming mk→Zo8
open Go.PV.PureF renaming forget→ZpF,use→Zpe
open Go.PV.SubH renaming refl→Zpa
open Int renaming reduceNeg→Zp1,reduceLE→ZpZ
open List renaming map_cons→Zpp,map_nil→Zpw,getD_cons_zero→ZpN,getD_cons_succ→ZpK,getD_nil→ZpL
open Nat renaming reduceEqDiff→Zo5,reduceLT→Zo7,lt_or_ge→ZpJ,succ_ne_self→Zpv
set_option maxRecDepth 20000
set_option maxHeartbeats 4000000
namespace Go.PV.Ytglpmlbbaedbiaa
open Go Go.Proofs
abbrev bV8 (n:Int):VV:=.lit (.int .u8 n)
def letN (n:Int):Bool:=decide (97≤n) && decide (n≤122) || decide (65≤n) && decide (n≤90)
def digN (n:Int):Bool:=decide (48≤n) && decide (n≤57)
def badN (n:Int):Bool:=!letN n && !digN n && !decide (n=95) && !decide (n=39) && !decide (n=46)
theorem ZiV (n:Int):PureF Try.prog 88 [bV8 n] (boolV (letN n)):=by
 refine ZpF fun H=>?_
 refine ZK fd88 (by simp) ?_;delta c88 Zq Za Zr Zp Zc;obtain ⟨b,hb⟩:∃ b,b=letN n:=⟨_,rfl⟩
 rw [← hb];unfold letN at hb;replace hb:=Zo8 hb
 (repeat' (first | (simp only [↓ZF,ZG,ZcS,↓ZfK,boolV,Zo5,Zo7,reduceCtorEq,Yb,ZJ,undef, *]) | (refine JD ?_ ?_<;>intro) | (refine Xu ?_ ?_<;>intro) | (refine ZM ?_) | (exact Zpa _) | (with_reducible refine And.intro ?_ ?_)))
 all_goals
  rw [hb.out];exact congrArg (fun b=>VE.ret (boolV b)) (by rw [Bool.eq_iff_iff]; simp; omega)
theorem digit_ok (n:Int):PureF Try.prog 91 [bV8 n] (boolV (digN n)):=by
 refine ZpF fun H=>?_
 refine ZK fd91 (by simp) ?_;delta c91 Zq Za Zr Zp Zc;obtain ⟨b,hb⟩:∃ b,b=digN n:=⟨_,rfl⟩
 rw [← hb];unfold digN at hb;replace hb:=Zo8 hb
 (repeat' (first | (simp only [↓ZF,ZG,↓ZfK,boolV,Zo5,Zo7,reduceCtorEq,Yb,ZJ,undef, *]) | (refine JD ?_ ?_<;>intro) | (refine ZM ?_) | (exact Zpa _) | (with_reducible refine And.intro ?_ ?_)))
 all_goals
  rw [hb.out];exact congrArg (fun b=>VE.ret (boolV b)) (by rw [Bool.eq_iff_iff]; simp; omega)
theorem bad_ok (n:Int):PureF Try.prog 90 [bV8 n] (boolV (badN n)):=by
 have h1:=ZiV n;have h2:=digit_ok n;refine ZpF fun H=>?_
 refine ZK fd90 (by simp) ?_;delta c90 Zq Za Zo Zr Zp Zc;unfold badN;generalize letN n=x at *
 generalize digN n=y at *
 (repeat' (first | (simp only [↓ZF,ZG,boolV,Zo5,Zo7,Bool.true_and,reduceCtorEq,Yb,ZJ,undef,ZoU,en_91, *]) | (refine Zdx ?_ ?_<;>intro) | (refine ZM ?_) | (exact Zpa _) | (refine Zpe (h1) ?_) | (refine Zpe (h2) ?_)))
theorem idxByte {l:List UInt8} {f:VV} {p:UInt8→Bool} {H:AH} {K:VE→AH→Prop} (hl:l.length≤1099511627776)
 (hf:∀ i (h:i<l.length),FnAt Try.prog f [bV8 (l[i].toNat:Int)] (boolV (p l[i])) H) (hK:K (.ret (iV (idxF p l))) H):ZU Try.prog 105 [encS (fun c:UInt8=>[bV8 (c.toNat:Int)]) l,f] H K:=by
 refine ZK fd105 (by simp) ?_;delta c105 Zf Za Ze Zq;have hd:∀ i (h:i<l.length),(encC (fun c:UInt8=>[bV8 (c.toNat:Int)]) l).drop i=bV8 (l[i].toNat:Int)::encC (fun c:UInt8=>[bV8 (c.toNat:Int)]) (l.drop (i+1)):=fun i h=>ZaZ (enc:=fun c:UInt8=>bV8 (c.toNat:Int)) h
 (repeat' (first | (simp only [↓ZF,ZG,intV,Zo5,Zo7,reduceCtorEq,ZJ,undef,Znk, *])))
 refine ZY (fun _ _ _ h=>h) (fun A H'=>H'=H∧A.d=[]∧A.t 0=encS (fun c:UInt8=>[bV8 (c.toNat:Int)]) l∧A.t 1=f∧A.t 7=iV l.length∧∃ i:Nat,i≤l.length∧A.t 8=iV i∧∀ j (h:j<l.length),j<i→p l[j]=false)
  (fun A _=>match A.t 8 with | .lit (.int _ i)=>((l.length:Int)-i).toNat | _=>0) ?_ ?_
 ·exact ⟨rfl,rfl,rfl,rfl,rfl,0,by simp,rfl,by simp⟩
 ·rintro ⟨t,d⟩ H' ⟨rfl,rfl,h0,h1,h7,i,hi,h8,hj⟩;dsimp only at h0 h1 h7 h8;delta b105_1 Zn Zr Za Zc Zk Zb Zq Zm;by_cases hlt:i<l.length
  ·have hil:(i:Int)<(l.length:Int):=by omega
   have hdi:=hd i hlt;clear hd
   (repeat' (first | (simp only [↓ZF,ZG,boolV,Zo5,Zo7,reduceCtorEq,ldT_5,Znk, *]) | (refine Yp ?_ ?_<;>intro) | (refine ZM ?_) | (refine hf _ hlt _ ?_) | (with_reducible refine And.intro ?_ ?_)))
   ·rw [← JT hlt (by assumption) (fun j h=>hj j (by omega) h)];exact hK
   ·rw [ZO (by omega) (by omega)];refine ⟨i+1,by omega,by simp,fun j h h'=>?_⟩;rcases ZpJ j i with h2 | h2
    ·exact hj j h h2
    ·obtain rfl:j=i:=by omega
     assumption
   ·rw [ZO (by omega) (by omega)];omega
  ·have hil:¬ (i:Int)<(l.length:Int):=by omega
   (repeat' (first | (simp only [↓ZF,ZG,Zo7, *]) | (refine Ya rfl (fun _ _ _ h=>h) ?_)))
   delta c105_1 Zq
   (repeat' (first | (simp only [↓ZF,ZG,Zo5,Zo7,Zp1, *]) | (refine ZM ?_)))
   rw [show (-1:Int)=idxF p l from (ZaO fun j h=>hj j h (by omega)).symm];exact hK
abbrev bytV (l:List UInt8):VV:=encS (fun c:UInt8=>[bV8 (c.toNat:Int)]) l
theorem hasByte {l:List UInt8} {f:VV} {p:UInt8→Bool} {H:AH} {K:VE→AH→Prop} (hl:l.length≤1099511627776)
 (hf:∀ i (h:i<l.length),FnAt Try.prog f [bV8 (l[i].toNat:Int)] (boolV (p l[i])) H) (hK:K (.ret (boolV (l.any p))) H):ZU Try.prog 89 [bytV l,f] H K:=by
 refine ZK fd89 (by simp) ?_;delta c89 Zq Za Zo Zr Zm Zc
 (repeat' (first | (simp only [↓ZF,ZG,Zo5,Zo7,reduceCtorEq,ZJ,undef,en_105, *]) | (refine ZM ?_) | (refine idxByte (p:=p) hl hf ?_)))
 rw [ZhH];exact hK
theorem s_index {cx:Cx} {next:AF→AH→Prop} {Q:APost} {A:AF} {H:AH} (d:Option Tmp) (t:TypeId) (x i:Operand):vcDo cx ⟨d,.index t x i,none⟩ next Q A H=(dOk cx.N d∧Zbs cx.P t (A.eval x) (A.eval i) H (vcK next Q d A)):=rfl
def nameB (b:ByteArray):Bool:=match b.data.toList with
 | []=>false
 | c::l=>decide (b.size≤40) && (letN (c.toNat:Int) || decide ((c.toNat:Int)=95)) && !(c::l).any fun x=>badN (x.toNat:Int)
theorem Zdd (b:ByteArray) (hb:b.size≤1099511627776):PureF Try.prog 78 [.lit (.string b)] (boolV (nameB b)):=by
 refine ZpF fun H=>?_
 refine ZK fd78 (by simp) ?_;delta c78 Zq Za Zr Zp Zo Zc;have hl:b.size=b.data.toList.length:=by simp
 have hu1:(Try.prog).underlying 9=some .string:=Try.underlying9;have hu2:(Try.prog).underlying 188=some (.slice 5):=Try.underlying188;have hu3:(Try.prog).underlying 5=some (.int .u8):=Try.underlying5
 have hbad:∀ (H:AH) (K:VE→AH→Prop),K (.ret (boolV (b.data.toList.any fun x=>badN (x.toNat:Int)))) H→ZU Try.prog 89 [bytV b.data.toList,.lit (.func (.func 90) #[] #[])] H K:=fun H K hK =>
  hasByte (by omega) (fun i h=>FnAt.lit en_90 (bad_ok _)) hK
 have hcv:VV.slice false b.size (b.data.toList.map fun c=>.lit (.int .u8 (c.toNat:Int)))=bytV b.data.toList:=by
  rw [hl]
  have:∀ l:List UInt8,encC (fun c:UInt8=>[bV8 (c.toNat:Int)]) l=l.map fun c=>.lit (.int .u8 (c.toNat:Int)):=fun l=>by
   induction l with
   | nil=>rfl
   | cons c l ih=>rw [Yh,ih]; rfl
  rw [bytV,encS,this]
 cases hd:b.data.toList with
 | nil =>
   have hb0:b={ data:=#[] }:=by
    cases b with
    | mk d=>simp only [ByteArray.mk.injEq]; exact Array.toList_eq_nil_iff.1 hd
   subst hb0;clear hbad hcv hl
   (repeat' (first | (simp only [↓ZF,ZG,ZcS,↓ZaP,boolV,Zo5,Zo7,reduceCtorEq,Yb,ZJ,undef,ZoU, *]) | (refine ZM ?_) | (exact Zpa _) | (with_reducible refine And.intro ?_ ?_)))
   rfl
 | cons c l =>
   have hlet:=ZiV (c.toNat:Int)
   have hconv:∀ (H:AH) (K:VE→AH→Prop),K (.ret (bytV (c::l))) H→Zaq Try.prog 9 188 (.lit (.string b)) H K:=fun H K hK=>by
    unfold Zaq;refine ⟨_,hu1,?_⟩;rw [hu2];refine ⟨hu3,?_⟩;rw [hcv,hd];exact hK
   rw [hd] at hbad;obtain ⟨r,hr⟩:∃ r,r=nameB b:=⟨_,rfl⟩
   rw [← hr];unfold nameB at hr;rw [hd] at hr;simp only at hr
   have hne:decide (b={ data:=#[] })=false:=by
    rw [decide_eq_false_iff_not]; rintro rfl; simp at hd
   have hi0:b.data.toList[(0:Int).toNat]?=some c:=by rw [hd]; rfl
   generalize letN (c.toNat:Int)=x at *
   generalize (c::l).any (fun x=>badN (x.toNat:Int))=y at *
   replace hr:=Zo8 hr;clear hl hd hcv hu2 hu3
   (repeat' (first | (refine hconv _ _ ?_) | (refine hbad _ _ ?_) | (simp only [↓Wj,↓Xx,↓Xy,↓Xm,↓Xc,↓XI,↓ZaU,↓XA,↓Yo,↓ZaV,↓ZaK,↓ZfJ,↓ZbB,↓ZbC,ZcS,↓Ys,↓WK,↓YJ,↓YG,↓YH,↓YI,↓YT,↓Wk,↓ZI,↓YV,↓YB,↓JL,↓ZaW,↓Zct,↓Wc,↓s_un,↓Zod,↓Jy,↓Xk,↓YX,↓Zd7,↓JM,↓WH,↓Zab,↓ZaP,intV,boolV,Zpp,Zpw,ZpN,ZpK,ZpL,ite_true,ite_false,Zo5,Zo7,true_and,ZpT,Zpv,decide_true,decide_false,reduceCtorEq,Yb,ZJ,eq_self,n_lenT,undef,ZpZ,s_index,Zbs,ZoU,en_89, *]) | (refine Xu ?_ ?_<;>intro) | (refine Zdx ?_ ?_<;>intro) | (refine Yp ?_ ?_<;>intro) | (refine ZM ?_) | (exact Zpa _) | (refine Zpe (hlet) ?_) | (with_reducible refine And.intro ?_ ?_)))
   all_goals
    rw [hr.out];exact congrArg (fun b=>VE.ret (boolV b)) (by clear hlet hconv hbad hi0 hr; cases x<;>cases y<;>simp_all<;>omega)
end Go.PV.Ytglpmlbbaedbiaa
end
section
open Go.PV.AH renaming set_none→Zpb,ne_of→Zo6,set_same→Zpc
open Go.PV.GhL renaming cons→Zpn
open Go.PV.Hold renaming mk→Zo8
open Go.PV.PureF renaming forget→ZpF,use→Zpe
open Go.PV.SubH renaming refl→Zpa,of_set→Zpi
open Int renaming reduceNeg→Zp1
open List renaming drop→Zo9,drop_eq_getElem_cons→ZpI,take_append_drop→Zqi,length_take→ZpX,getElem_mem→Zpk,drop_eq_nil_of_le→ZpC
open Nat renaming reduceEqDiff→Zo5,reduceLT→Zo7,lt_or_ge→ZpJ,reduceAdd→Zpd,reduceMul→ZpQ
open Option renaming map_none→ZpS,map_some→Zps
set_option maxRecDepth 20000
set_option maxHeartbeats 4000000
namespace Go.PV.Ytglpmlbbaedbiaa
open Go Go.Proofs
abbrev coV (c:Co):VV:=.agg (coE c)
theorem idxCo {l:List Co} {f:VV} {p:Co→Bool} {H:AH} {K:VE→AH→Prop} (hl:l.length≤1099511627776)
 (hf:∀ i (h:i<l.length),FnAt Try.prog f [coV l[i]] (boolV (p l[i])) H) (hK:K (.ret (iV (idxF p l))) H):ZU Try.prog 92 [cosV l,f] H K:=by
 refine ZK fd92 (by simp) ?_;delta c92 Zf Za Ze Zq
 (repeat' (first | (simp only [↓ZF,ZG,intV,Zo5,Zo7,reduceCtorEq,ZJ,undef,Zar, *])))
 refine ZY (fun _ _ _ h=>h) (fun A H'=>H'=H∧A.d=[]∧A.t 0=cosV l∧A.t 1=f∧A.t 7=iV l.length∧∃ i:Nat,i≤l.length∧A.t 8=iV i∧∀ j (h:j<l.length),j<i→p l[j]=false)
  (fun A _=>match A.t 8 with | .lit (.int _ i)=>((l.length:Int)-i).toNat | _=>0) ?_ ?_
 ·exact ⟨rfl,rfl,rfl,rfl,rfl,0,by simp,rfl,by simp⟩
 ·rintro ⟨t,d⟩ H' ⟨rfl,rfl,h0,h1,h7,i,hi,h8,hj⟩;dsimp only at h0 h1 h7 h8;delta b92_1 Zn Zr Za Zc Zk Zb Zq Zm;by_cases hlt:i<l.length
  ·have hil:(i:Int)<(l.length:Int):=by omega
   have hdi:=ZdF hlt
   (repeat' (first | (simp only [↓ZF,ZG,boolV,Zo5,Zo7,reduceCtorEq,ZmL,Zar, *]) | (refine Yp ?_ ?_<;>intro) | (refine ZM ?_) | (refine hf _ hlt _ ?_) | (with_reducible refine And.intro ?_ ?_)))
   ·rw [← JT hlt (by assumption) (fun j h=>hj j (by omega) h)];exact hK
   ·rw [ZO (by omega) (by omega)];refine ⟨i+1,by omega,by simp,fun j h h'=>?_⟩;rcases ZpJ j i with h2 | h2
    ·exact hj j h h2
    ·obtain rfl:j=i:=by omega
     assumption
   ·rw [ZO (by omega) (by omega)];omega
  ·have hil:¬ (i:Int)<(l.length:Int):=by omega
   (repeat' (first | (simp only [↓ZF,ZG,Zo7, *]) | (refine Ya rfl (fun _ _ _ h=>h) ?_)))
   delta c92_1 Zq
   (repeat' (first | (simp only [↓ZF,ZG,Zo5,Zo7,Zp1, *]) | (refine ZM ?_)))
   rw [show (-1:Int)=idxF p l from (ZaO fun j h=>hj j h (by omega)).symm];exact hK
theorem eq1Co (b:Co) {name:ByteArray} {e:TypeId} {r sp:Nat} {H:AH} (hr:H r=some (.cells e [sV name] sp)):FnAt Try.prog (.func (.func 93) [] [ptrV r 0]) [coV b] (boolV (decide (b.name=name))) H:=by
 refine FnAt.cap en_93 fun K hK=>?_
 refine ReadF.use (x:=boolV (decide (b.name=name))) ?_ hK;refine ZK fd93 (by simp) ?_;delta c93 Zj Zq Zd Zb Zn Zc
 (repeat' (first | (simp only [↓ZF,ZG,↓ZaP,ptrV,boolV,Zo5,Zo7,ZJ,Zo9,undef,ZhD,Ym, *]) | (refine ZM ?_) | (refine ZH fun zr zh=>?_; have zg:=zh; (try simp only [Zpb] at zg); (try have zn_hr:=Zo6 hr zh); (try have zn_hr:=Zo6 hr zg.2); (try have zn_hr:=Zo6 hr zg.2.2)) | (exact Zpa _) | (refine Zpi ?_ ?_)))
def atCo (l:List Co) (n:ByteArray):Int:=idxF (fun c=>decide (c.name=n)) l
theorem Zkp (l:List Co) (n:ByteArray) (hl:l.length≤1099511627776):PureF Try.prog 79 [cosV l,sV n] (iV (atCo l n)):=by
 refine ZpF fun H=>?_
 refine ZK fd79 (by simp) ?_;delta c79 Zj Zf Za Zq Zr Zo Zc;unfold atCo
 (repeat' (first | (simp only [↓ZF,ZG,ptrV,Zo5,Zo7,reduceCtorEq,ZJ,undef,en_92, *]) | (refine ZM ?_) | (refine ZH fun zr zh=>?_; have zg:=zh; (try simp only [Zpb] at zg)) | (exact Zpa _) | (refine Zpi ?_ ?_) | (refine idxCo (p:=fun c=>decide (c.name=n)) hl (fun i h=>eq1Co l[i] (Zpc _ _ _)) ?_)))
theorem idxFu {l:List Fu} {f:VV} {p:Fu→Bool} {H:AH} {K:VE→AH→Prop} (hl:l.length≤1099511627776)
 (hf:∀ i (h:i<l.length),FnAt Try.prog f [fuV l[i]] (boolV (p l[i])) H) (hK:K (.ret (iV (idxF p l))) H):ZU Try.prog 94 [fusV l,f] H K:=by
 refine ZK fd94 (by simp) ?_;delta c94 Zf Za Ze Zq
 (repeat' (first | (simp only [↓ZF,ZG,intV,Zo5,Zo7,reduceCtorEq,ZJ,undef,ZaH, *])))
 refine ZY (fun _ _ _ h=>h) (fun A H'=>H'=H∧A.d=[]∧A.t 0=fusV l∧A.t 1=f∧A.t 7=iV l.length∧∃ i:Nat,i≤l.length∧A.t 8=iV i∧∀ j (h:j<l.length),j<i→p l[j]=false)
  (fun A _=>match A.t 8 with | .lit (.int _ i)=>((l.length:Int)-i).toNat | _=>0) ?_ ?_
 ·exact ⟨rfl,rfl,rfl,rfl,rfl,0,by simp,rfl,by simp⟩
 ·rintro ⟨t,d⟩ H' ⟨rfl,rfl,h0,h1,h7,i,hi,h8,hj⟩;dsimp only at h0 h1 h7 h8;delta b94_1 Zn Zr Za Zc Zk Zb Zq Zm;by_cases hlt:i<l.length
  ·have hil:(i:Int)<(l.length:Int):=by omega
   have hdi:=Jg hlt
   (repeat' (first | (simp only [↓ZF,ZG,boolV,Zo5,Zo7,reduceCtorEq,Zdu,ZaH, *]) | (refine Yp ?_ ?_<;>intro) | (refine ZM ?_) | (refine hf _ hlt _ ?_) | (with_reducible refine And.intro ?_ ?_)))
   ·rw [← JT hlt (by assumption) (fun j h=>hj j (by omega) h)];exact hK
   ·rw [ZO (by omega) (by omega)];refine ⟨i+1,by omega,by simp,fun j h h'=>?_⟩;rcases ZpJ j i with h2 | h2
    ·exact hj j h h2
    ·obtain rfl:j=i:=by omega
     assumption
   ·rw [ZO (by omega) (by omega)];omega
  ·have hil:¬ (i:Int)<(l.length:Int):=by omega
   (repeat' (first | (simp only [↓ZF,ZG,Zo7, *]) | (refine Ya rfl (fun _ _ _ h=>h) ?_)))
   delta c94_1 Zq
   (repeat' (first | (simp only [↓ZF,ZG,Zo5,Zo7,Zp1, *]) | (refine ZM ?_)))
   rw [show (-1:Int)=idxF p l from (ZaO fun j h=>hj j h (by omega)).symm];exact hK
theorem eq1Fu (b:Fu) {name:ByteArray} {e:TypeId} {r sp:Nat} {H:AH} (hr:H r=some (.cells e [sV name] sp)):FnAt Try.prog (.func (.func 95) [] [ptrV r 0]) [fuV b] (boolV (decide (b.name=name))) H:=by
 refine FnAt.cap en_95 fun K hK=>?_
 refine ReadF.use (x:=boolV (decide (b.name=name))) ?_ hK;refine ZK fd95 (by simp) ?_;delta c95 Zj Zq Zd Zb Zn Zc
 (repeat' (first | (simp only [↓ZF,ZG,↓ZaP,ptrV,boolV,Zo5,Zo7,ZJ,Zo9,undef,ZhC,Ym, *]) | (refine ZM ?_) | (refine ZH fun zr zh=>?_; have zg:=zh; (try simp only [Zpb] at zg); (try have zn_hr:=Zo6 hr zh); (try have zn_hr:=Zo6 hr zg.2); (try have zn_hr:=Zo6 hr zg.2.2)) | (exact Zpa _) | (refine Zpi ?_ ?_)))
def atFu (l:List Fu) (n:ByteArray):Int:=idxF (fun c=>decide (c.name=n)) l
theorem findFu (l:List Fu) (n:ByteArray) (hl:l.length≤1099511627776):PureF Try.prog 80 [fusV l,sV n] (iV (atFu l n)):=by
 refine ZpF fun H=>?_
 refine ZK fd80 (by simp) ?_;delta c80 Zj Zf Za Zq Zr Zo Zc;unfold atFu
 (repeat' (first | (simp only [↓ZF,ZG,ptrV,Zo5,Zo7,reduceCtorEq,ZJ,undef,en_94, *]) | (refine ZM ?_) | (refine ZH fun zr zh=>?_; have zg:=zh; (try simp only [Zpb] at zg)) | (exact Zpa _) | (refine Zpi ?_ ?_) | (refine idxFu (p:=fun c=>decide (c.name=n)) hl (fun i h=>eq1Fu l[i] (Zpc _ _ _)) ?_)))
def Zbw (all:List Co):List Co→Nat→Int
 | [],_=>0
 | c::l,i=>if nameB c.name=true then (if c.arity<0∨10<c.arity then 4 else if 0≤atCo (all.take i) c.name then 10 else Zbw all l (i+1)) else 411
theorem Zjr {all l:List Co} {i k:Nat} (h:i<l.length):Zbw all (l.drop i) k=if nameB l[i].name=true then (if l[i].arity<0∨10<l[i].arity then 4 else if 0≤atCo (all.take k) l[i].name then 10 else Zbw all (l.drop (i+1)) (k+1)) else 411:=by rw [ZpI h,Zbw]
def Zbx (l:List Co):Int:=if 100<l.length then 5 else Zbw l l 0
theorem takeCo {l:List Co} {n:ByteArray} {i:Nat} {H:AH} {K:VE→AH→Prop} (hi:i≤l.length) (hl:l.length≤1099511627776) (hK:K (.ret (iV (atCo (l.take i) n))) H):ZU Try.prog 79 [.slice false i (encC coE l),sV n] H K:=by
 have e:encC coE l=encC coE (l.take i)++encC coE (l.drop i):=by rw [← Yu,Zqi]
 rw [e];refine YU (Zpn (GhV.trunc _ _ _ _ _) (GhL.refl _ _)) ?_;have el:(l.take i).length=i:=by rw [ZpX]; omega
 rw [show VV.slice false i (encC coE (l.take i))=cosV (l.take i) from by rw [cosV,encS,el]];exact (Zkp (l.take i) n (by omega)).use hK
theorem Zjs (l:List Co) (hl:l.length≤1099511627776) (hn:∀ c∈l,c.name.size≤1099511627776):PureF Try.prog 77 [cosV l] (iV (Zbx l)):=by
 have hna:∀ i (h:i<l.length),PureF Try.prog 78 [sV l[i].name] (boolV (nameB l[i].name)):=fun i h=>Zdd _ (hn _ (Zpk h))
 clear hn;refine ZpF fun H=>?_
 refine ZK fd77 (by simp) ?_;delta c77 Zf Za Ze Zm Zr Zq;obtain ⟨R,hR⟩:∃ R,R=Zbx l:=⟨_,rfl⟩
 rw [← hR];unfold Zbx at hR;by_cases h100:100<l.length
 ·have h1:(100:Int)<(l.length:Int):=by omega
  rw [if_pos h100] at hR;rw [hR];clear hR
  (repeat' (first | (simp only [↓ZF,ZG,intV,Zo5,Zo7,reduceCtorEq,ZJ,undef,Zar, *]) | (refine ZM ?_) | (exact Zpa _)))
 ·have h1:¬ (100:Int)<(l.length:Int):=by omega
  rw [if_neg h100] at hR;replace hR:=Zo8 hR
  (repeat' (first | (simp only [↓ZF,ZG,intV,Zo5,Zo7,reduceCtorEq,ZJ,undef,Zar, *])))
  refine ZY (fun _ _ _ h=>h) (fun A H'=>SubH H H'∧A.d=[]∧A.t 0=cosV l∧A.t 8=cosV l∧A.t 9=iV l.length∧∃ i:Nat,i≤l.length∧A.t 10=iV i∧R=Zbw l (l.drop i) i)
   (fun A _=>match A.t 10 with | .lit (.int _ i)=>((l.length:Int)-i).toNat | _=>0) ?_ ?_
  ·exact ⟨Zpa _,rfl,(by simp only [ZI,Zo5,if_false, *]<;>rfl),(by simp only [ZI,Zo5,if_true,if_false, *]<;>rfl),(by simp only [ZI,Zo5,if_true,if_false, *]<;>rfl),0,by omega,(by simp only [ZI,Zo5,if_true,if_false, *]<;>rfl),hR.out⟩
  ·clear hR h1;rintro ⟨t,d⟩ H' ⟨hs,rfl,h0,h8,h9,i,hi,h10,hR⟩;dsimp only at h0 h8 h9 h10;delta b77_1 Zn Zr Za Zk Zb Zi Zc Zg Zd Zo Zq Zf Zm Zp;by_cases hlt:i<l.length
   ·have hil:(i:Int)<(l.length:Int):=by omega
    have hdi:=ZdF hlt;have hni:=hna i hlt;rw [Zjr hlt] at hR;replace hR:=Zo8 hR;clear hna
    (repeat' (first | (simp only [↓ZF,ZG,ptrV,boolV,Zo5,Zo7,Zpd,ZpQ,reduceCtorEq,Yb,ZJ,setAt,Zo9,undef,YC,ZpS,Zps,Xj,idxV,idxOk,Nat.sub_zero,ZhD,ZbM,ZmL,Ym,Yg,szT_91,Ze1,Zar,Ze2,Zaw, *]) | (refine Xu ?_ ?_<;>intro) | (refine Yf ?_ ?_<;>intro) | (refine Yp ?_ ?_<;>intro) | (refine ZM ?_) | (refine ZR mixed (fun _ _ _ _ e h=>⟨e.trans h.1,h.2⟩) _ (Zpa _) ?_) | (refine ZH fun zr zh=>?_; have zg:=zh; (try simp only [Zpb] at zg)) | (refine Zpi ?_ ?_) | (exact SubH.none (by assumption) (by assumption)) | (refine Zpe (hni) ?_) | (refine takeCo (by omega) (by omega) ?_) | (with_reducible refine And.intro ?_ ?_)))
    all_goals try exact fun _=>trivial
    all_goals try exact Nat.zero_le _
    ·rw [hR.out,if_neg (by have h2:(!nameB l[i].name)=true:=by assumption
                           intro h; rw [h] at h2; cases h2)]
    ·rw [hR.out,if_pos (by have h2:(!nameB l[i].name)=false:=by assumption
                           simpa using h2),if_pos (by omega)]
    ·rw [hR.out,if_pos (by have h2:(!nameB l[i].name)=false:=by assumption
                           simpa using h2),if_neg (by omega),if_pos (by assumption)]
    ·rw [ZO (n:=(i:Int)+1) (by omega) (by omega)];refine ⟨i+1,by omega,rfl,?_⟩
     rw [hR.out,if_pos (by have h2:(!nameB l[i].name)=false:=by assumption
                           simpa using h2),if_neg (by omega),if_neg (by assumption)]
    ·rw [ZO (n:=(i:Int)+1) (by omega) (by omega)];omega
    ·rw [hR.out,if_pos (by have h2:(!nameB l[i].name)=false:=by assumption
                           simpa using h2),if_pos (by omega)]
   ·have hil:¬ (i:Int)<(l.length:Int):=by omega
    rw [ZpC (by omega)] at hR;have hR:R=0:=hR;rw [hR];clear hR
    (repeat' (first | (simp only [↓ZF,ZG,Zo7, *]) | (refine Ya rfl (fun _ _ _ h=>h) ?_)))
    delta c77_1 Zf
    (repeat' (first | (simp only [↓ZF,ZG,Zo5,Zo7, *]) | (refine ZM ?_)))
end Go.PV.Ytglpmlbbaedbiaa
end
section
open Go.PV.AH renaming set_none→Zpb,ne_of→Zo6,get→Zpf,set_same→Zpc
open Go.PV.Hold renaming mk→Zo8
open Go.PV.SubH renaming new→Zph
open Int renaming reduceNeg→Zp1,reduceLE→ZpZ
open List renaming length_cons→Zpx,length_append→Zpy,cons_append→Zp6,append_assoc→Zqc,drop_eq_getElem_cons→ZpI,take_append_drop→Zqi,length_drop→Zp7,drop→Zo9,getElem_mem→Zpk,take_of_length_le→ZpD
open Nat renaming reduceEqDiff→Zo5,reduceLT→Zo7,reduceAdd→Zpd,reduceLeDiff→Zpo,le_refl→Zpl,lt_succ_self→Zp8,zero_add→Zpu
set_option maxRecDepth 20000
set_option maxHeartbeats 4000000
namespace Go.PV.Ytglpmlbbaedbiaa
open Go Go.Proofs
abbrev Pl:=Pa × Int
abbrev plE (x:Pl):List VV:=[bV x.1.con,sV x.1.name,encS paE x.1.kids,iV x.2]
abbrev plV (x:Pl):VV:=.agg (plE x)
mutual
def Pa.all:Pa→Int→List Pl
 | .mk c n ks,a=>(.mk c n ks,a)::XH ks (a+1)
def XH:List Pa→Int→List Pl
 | [],_=>[]
 | p::l,a=>p.all a++XH l a
end
theorem Pa.all_eq (p:Pa) (a:Int):p.all a=(p,a)::XH p.kids (a+1):=by cases p; rw [Pa.all]; rfl
mutual
theorem Pa.all_len:∀ (p:Pa) (a:Int),(p.all a).length=p.sz
 | .mk c n ks,a=>by rw [Pa.all,Zpx,Zeh ks (a+1),Pa.sz]; omega
theorem Zeh:∀ (l:List Pa) (a:Int),(XH l a).length=pasSz l
 | [],_=>rfl
 | p::l,a=>by rw [XH,Zpy,Pa.all_len p a,Zeh l a,pasSz]
end
theorem ZdK (a:Int):∀ (l m:List Pa),XH (l++m) a=XH l a++XH m a
 | [],m=>rfl
 | p::l,m=>by rw [Zp6,XH,XH,ZdK a l m,Zqc]
theorem idxPaS {l:List Pa} {f:VV} {J:Nat→AH→Prop} {St:AH→Prop} {H:AH} {K:VE→AH→Prop} (hl:l.length≤1099511627776) (hJ:J 0 H)
 (hf:∀ i (h:i<l.length) B,J i B→∀ K':VE→AH→Prop,(∀ B',J (i+1) B'→K' (.ret (boolV false)) B')→(∀ B',St B'→K' (.ret (boolV true)) B')→XX Try.prog none f [paV l[i]] B K')
 (hE:∀ B,J l.length B→K (.ret (iV (-1))) B) (hS:∀ (i:Nat) B,St B→K (.ret (iV i)) B):ZU Try.prog 115 [pasV l,f] H K:=by
 refine ZK fd115 (by simp) ?_;delta c115 Zf Za Ze Zq
 (repeat' (first | (simp only [↓ZF,ZG,intV,Zo5,Zo7,reduceCtorEq,ZJ,undef,Xl, *])))
 refine ZY (fun _ _ _ h=>h) (fun A H'=>A.d=[]∧A.t 0=pasV l∧A.t 1=f∧A.t 7=iV l.length∧∃ i:Nat,i≤l.length∧A.t 8=iV i∧J i H')
  (fun A _=>match A.t 8 with | .lit (.int _ i)=>((l.length:Int)-i).toNat | _=>0) ?_ ?_
 ·exact ⟨rfl,rfl,rfl,rfl,0,by simp,rfl,hJ⟩
 ·clear hJ;rintro ⟨t,d⟩ H' ⟨rfl,h0,h1,h7,i,hi,h8,hj⟩;dsimp only at h0 h1 h7 h8;delta b115_1 Zn Zr Za Zc Zk Zb Zq Zm;by_cases hlt:i<l.length
  ·have hil:(i:Int)<(l.length:Int):=by omega
   have hdi:=WM hlt
   (repeat' (first | (simp only [↓ZF,ZG,boolV,Zo5,Zo7,reduceCtorEq,XB,Xl, *]) | (refine ZM ?_) | (refine hf _ hlt _ hj _ (fun B' hB=>?_) (fun B' hB=>?_)) | (with_reducible refine And.intro ?_ ?_)))
   all_goals rw [ZO (n:=(i:Int)+1) (by omega) (by omega)]
   ·exact ⟨i+1,by omega,rfl,hB⟩
   ·omega
  ·have hil:¬ (i:Int)<(l.length:Int):=by omega
   have hie:i=l.length:=by omega
   subst hie
   (repeat' (first | (simp only [↓ZF,ZG,Zo7, *]) | (refine Ya rfl (fun _ _ _ h=>h) ?_)))
   delta c115_1 Zq
   (repeat' (first | (simp only [↓ZF,ZG,Zo5,Zo7,Zp1, *]) | (refine ZM ?_)))
theorem hasPaS {l:List Pa} {f:VV} {J:Nat→AH→Prop} {St:AH→Prop} {H:AH} {K:VE→AH→Prop} (hl:l.length≤1099511627776) (hJ:J 0 H)
 (hf:∀ i (h:i<l.length) B,J i B→∀ K':VE→AH→Prop,(∀ B',J (i+1) B'→K' (.ret (boolV false)) B')→(∀ B',St B'→K' (.ret (boolV true)) B')→XX Try.prog none f [paV l[i]] B K')
 (hE:∀ B,J l.length B→K (.ret (boolV false)) B) (hS:∀ B,St B→K (.ret (boolV true)) B):ZU Try.prog 113 [pasV l,f] H K:=by
 refine ZK fd113 (by simp) ?_;delta c113 Zq Za Zo Zr Zm Zc;have hz:∀ i:Nat,(0:Int)≤(i:Int):=fun i=>by omega
 (repeat' (first | (simp only [↓ZF,ZG,Zo5,Zo7,reduceCtorEq,ZJ,undef,ZpZ,Zp1,en_115, *]) | (refine ZM ?_) | (refine idxPaS (J:=J) (St:=St) hl hJ hf (fun B hB=>?_) (fun i B hB=>?_))))
 ·exact hE _ hB
 ·exact hS _ hB
theorem ZmU (p:Pa) {H:AH} {K:VE→AH→Prop} (h:∀ rb,H rb=none→K (.ret (.func (.func 111) [] [ptrV rb 0])) (H.set rb (.cells 57 [bV p.con,sV p.name,encS paE p.kids] 0))):ZU Try.prog 106 [paV p] H K:=by
 refine ZK fd106 (by simp) ?_;delta c106 Zj Zq Zr Zc
 (repeat' (first | (simp only [↓ZF,ZG,ptrV,Zo5,Zo7,ZJ,undef, *]) | (refine ZM ?_) | (refine ZH fun zr zh=>?_; have zg:=zh; (try simp only [Zpb] at zg))))
 exact h _ (by assumption)
theorem ZiW {L M:List Pl} {p:Pa} {a:Int} {k i:Nat} (hL:L.drop k=p.all a++M) (h:i<p.kids.length):L.drop (k+1+pasSz (p.kids.take i))=(p.kids[i]).all (a+1)++(XH (p.kids.drop (i+1)) (a+1)++M):=by
 have e:p.kids=p.kids.take i++p.kids[i]::p.kids.drop (i+1):=by rw [← ZpI h,Zqi]
 have e2:=congrArg (fun l=>XH l (a+1)) e;simp only [ZdK,XH] at e2;rw [show k+1+pasSz (p.kids.take i)=k+(pasSz (p.kids.take i)+1) from by omega,← List.drop_drop,hL,p.all_eq,Zp6,List.drop_succ_cons,e2,Zqc,Zqc,List.drop_left' (Zeh _ _)]
theorem ZiX {l:List Pa} {i:Nat} (h:i<l.length):pasSz (l.take (i+1))=pasSz (l.take i)+l[i].sz:=by
 rw [YM h,ZeF,pasSz,pasSz]; omega
section
variable {y:VV} {ry rw sp sp':Nat} {L:List Pl} {Inv Stop:Nat→AH→Prop} {Mut:Nat→Prop}
def keeps (Mut:Nat→Prop) (B B':AH):Prop:=∀ r b,¬ Mut r→B r=some b→B' r=some b
theorem keeps.refl {B:AH}:keeps Mut B B:=fun _ _ _ h=>h
theorem keeps.trans {B B' B'':AH} (h:keeps Mut B B') (h':keeps Mut B' B''):keeps Mut B B'':=fun r b hm hb=>h' r b hm (h r b hm hb)
theorem keeps.sub {B B':AH} (h:SubH B B'):keeps Mut B B':=fun r b _ hb=>h r b hb
theorem walk (hmono:∀ k B B',Inv k B→SubH B B'→Inv k B')
 (hmut:∀ k B r,Inv k B→Mut r→B r ≠ none) (hmy:¬ Mut ry) (hmw:¬ Mut rw)
 (hy:∀ k (h:k<L.length) B,Inv k B→∀ K':VE→AH→Prop,(∀ B',Inv (k+1) B'→keeps Mut B B'→K' (.ret (boolV true)) B')→(∀ B',Stop k B'→K' (.ret (boolV false)) B')→ACall Try.prog none y [plV L[k]] B K')
 (hyl:∀ B xs K',XX Try.prog none y xs B K'=ACall Try.prog none y xs B K') :
 ∀ (n:Nat) (p:Pa) (a:Int) (k:Nat) (M:List Pl) (B:AH) (K:VE→AH→Prop),p.sz<n→L.drop k=p.all a++M→p.sz≤1099511627776→0≤a→a+p.sz≤2199023255552→Inv k B →
 B ry=some (.cells 211 [y] sp)→B rw=some (.cells 212 [.func (.func 112) [] [ptrV ry 0,ptrV rw 0]] sp') →
 (∀ B',Inv (k+p.sz) B'→keeps Mut B B'→K (.ret (boolV true)) B')→(∀ j B',Stop j B'→K (.ret (boolV false)) B')→ZU Try.prog 112 [paV p,iV a,ptrV ry 0,ptrV rw 0] B K:=by
 intro n
 induction n with
 | zero=>intro p a k M B K h; omega
 | succ n ih =>
   intro p a k M B K h0 hL hs ha0 ha hI by_ bw hT hF;refine ZK fd112 (by simp) ?_;delta c112 Zj Zq Zb Zr Za Zp Zc
   have hk:k<L.length:=by
    have:=congrArg List.length hL
    rw [Zp7,Zpy,p.all_len] at this
    have:=p.sz_pos
    omega
   have hLk:L[k]=(p,a):=by
    rw [ZpI hk,p.all_eq] at hL;exact (List.cons.inj hL).1
   have hyk:=hy k hk;rw [hLk] at hyk;clear hLk hk;replace hT:=Zo8 hT;replace hF:=Zo8 hF;replace hL:=Zo8 hL
   (repeat' (first | (simp only [↓ZF,ZG,ptrV,Zo5,Zo7,Zpd,Zpo,ZJ,ZQ,fillV,setAt,Zo9,undef,ZQ,Znm,XB,Yg,Znn, *]) | (refine ZH fun zr zh=>?_; have zg:=zh; (try simp only [Zpb] at zg); (try have zn_by_:=Zo6 by_ zh); (try have zn_by_:=Zo6 by_ zg.2); (try have zn_by_:=Zo6 by_ zg.2.2); (try have zn_bw:=Zo6 bw zh); (try have zn_bw:=Zo6 bw zg.2); (try have zn_bw:=Zo6 bw zg.2.2))))
   rename_i r4 n4 n4' zz1 zz2;have m4:¬ Mut r4:=fun h=>hmut k B r4 hI h n4
   have m5:¬ Mut zr:=fun h=>hmut k B zr hI h zg.2
   have hI1:Inv k ((B.set r4 (.cells 57 [bV p.con,sV p.name,encS paE p.kids] 0)).set zr (.cells 3 [iV a] 0)):=hmono _ _ _ hI ((Zph n4).of_set zg.2);have hkB:keeps Mut B ((B.set r4 (.cells 57 [bV p.con,sV p.name,encS paE p.kids] 0)).set zr (.cells 3 [iV a] 0)):=keeps.sub ((Zph n4).of_set zg.2);have x4:((B.set r4 (.cells 57 [bV p.con,sV p.name,encS paE p.kids] 0)).set zr (.cells 3 [iV a] 0)) r4=some (.cells 57 [bV p.con,sV p.name,encS paE p.kids] 0):=(by simp only [Zpf, *,if_true,if_false]<;>rfl)
   have x5:((B.set r4 (.cells 57 [bV p.con,sV p.name,encS paE p.kids] 0)).set zr (.cells 3 [iV a] 0)) zr=some (.cells 3 [iV a] 0):=Zpc _ _ _;show ACall Try.prog none y _ ((B.set r4 (.cells 57 [bV p.con,sV p.name,encS paE p.kids] 0)).set zr (.cells 3 [iV a] 0)) _;generalize (B.set r4 (.cells 57 [bV p.con,sV p.name,encS paE p.kids] 0)).set zr (.cells 3 [iV a] 0)=B1 at *
   refine hyk B1 hI1 _ (fun B' hB hkp=>?_) (fun B' hB=>?_)
   ·have q4:=hkp _ _ m4 x4;have q5:=hkp _ _ m5 x5;have qy:=hkp _ _ hmy (hkB _ _ hmy by_);have qw:=hkp _ _ hmw (hkB _ _ hmw bw);have hkk:=hkB.trans hkp
    have hw:∀ (K':VE→AH→Prop),(∀ B'',Inv (k+p.sz) B''→keeps Mut B' B''→K' (.ret (boolV false)) B'')→(∀ j B'',Stop j B''→K' (.ret (boolV true)) B'')→ZU Try.prog 113 [pasV p.kids,.func (.func 114) [] [ptrV rw 0,ptrV zr 0]] B' K':=fun K' k1 k2=>by
     have hpz:=p.sz_eq;have hpl:=XG p.kids;refine hasPaS (J:=fun i C=>Inv (k+1+pasSz (p.kids.take i)) C∧keeps Mut B' C) (St:=fun C=>∃ j,Stop j C) (by omega) ⟨by simpa [pasSz] using hB,keeps.refl⟩ (fun i h C hC K'' h1 h2=>⟨ZmN,?_⟩) (fun C hC=>k1 C ?_ hC.2) (fun C hC=>hC.elim fun j hj=>k2 j C hj)
     ·obtain ⟨hC1,hC2⟩:=hC;have c5:=hC2 _ _ m5 q5;have cw:=hC2 _ _ hmw qw;have cy:=hC2 _ _ hmy qy;have hik:=ih p.kids[i] (a+1) (k+1+pasSz (p.kids.take i)) (XH (p.kids.drop (i+1)) (a+1)++M);have hdk:=ZiW hL.out h;have hks:=Xd (Zpk h);have hkd:=ZiX h;refine ZK fd114 (by simp) ?_;delta c114 Zj Zq Zb Zm Zr Zc;have hwa:IntKind.i64.wrap (a+1)=a+1:=ZO (by omega) (by omega);replace hdk:=Zo8 hdk;replace hkd:=Zo8 hkd;replace h1:=Zo8 h1;replace h2:=Zo8 h2;clear hT hF k1 k2 hL hyk
      (repeat' (first | (simp only [↓ZF,ZG,ptrV,Zo5,Zo7,ZJ,Zo9,undef,ZgO,XB,Yg, *]) | (refine ZH fun zr zh=>?_; have zg:=zh; (try simp only [Zpb] at zg); (try have zn_c5:=Zo6 c5 zh); (try have zn_c5:=Zo6 c5 zg.2); (try have zn_c5:=Zo6 c5 zg.2.2); (try have zn_cw:=Zo6 cw zh); (try have zn_cw:=Zo6 cw zg.2); (try have zn_cw:=Zo6 cw zg.2.2); (try have zn_cy:=Zo6 cy zh); (try have zn_cy:=Zo6 cy zg.2); (try have zn_cy:=Zo6 cy zg.2.2)) | (with_reducible refine And.intro ?_ ?_)))
      ·exact Zil
      ·have hsC:=Zph zh (b:=.cells 57 [bV p.kids[i].con,sV p.kids[i].name,encS paE p.kids[i].kids] 0);refine hik _ _ (by omega) hdk.out (by omega) (by omega) (by omega) (hmono _ _ _ hC1 hsC) (hsC _ _ cy) (hsC _ _ cw) (fun B2 hB2 hk2=>?_) (fun j B2 hB2=>?_)
       ·(repeat' (first | (simp only [↓ZF,ZG,boolV,Zo5,Zo7, *]) | (refine ZM ?_)))
        refine h1.out _ ⟨?_,hC2.trans ((keeps.sub hsC).trans hk2)⟩;rw [hkd.out,← Nat.add_assoc];exact hB2
       ·(repeat' (first | (simp only [↓ZF,ZG,boolV,Zo5,Zo7, *]) | (refine ZM ?_)))
        exact h2.out _ ⟨j,hB2⟩
     ·rw [ZpD (Zpl _)] at hC;rw [hpz,show k+(1+pasSz p.kids)=k+1+pasSz p.kids from by omega];exact hC.1
    clear hyk hL hkp
    (repeat' (first | (simp only [↓ZF,ZG,boolV,Zo5,Zo7,Zo9,XD,Wi,Zim, *]) | (refine ZM ?_) | (refine hw _ (fun B2 hB2 hk2=>?_) (fun j B2 hB2=>?_))))
    ·exact hT.out _ hB2 (hkk.trans hk2)
    ·exact hF.out _ _ hB2
   ·(repeat' (first | (simp only [↓ZF,ZG,boolV,Zo5,Zo7,Yb,ZJ,undef,Zim, *]) | (refine ZM ?_)))
    exact hF.out _ _ hB
theorem allRun {p:Pa} {rb s0:Nat} {H:AH} {K:VE→AH→Prop} (hmono:∀ k B B',Inv k B→SubH B B'→Inv k B')
 (hmut:∀ k B r,Inv k B→Mut r→B r ≠ none) (hs:p.sz≤1099511627776)
 (hy:∀ k (h:k<(p.all 0).length) B,Inv k B→∀ K':VE→AH→Prop,(∀ B',Inv (k+1) B'→keeps Mut B B'→K' (.ret (boolV true)) B')→(∀ B',Stop k B'→K' (.ret (boolV false)) B')→ACall Try.prog none y [plV (p.all 0)[k]] B K')
 (hyl:∀ B xs K',XX Try.prog none y xs B K'=ACall Try.prog none y xs B K') (hone:VV.one y=true) (hyc:y.cells=[y])
 (hrb:H rb=some (.cells 57 [bV p.con,sV p.name,encS paE p.kids] s0)) (hI:Inv 0 H)
 (hEnd:∀ B u,Inv p.sz B→K (.ret u) B) (hStop:∀ j B u,Stop j B→K (.ret u) B):ZU Try.prog 111 [y,ptrV rb 0] H K:=by
 have hw:=fun (ry rw sp sp':Nat) (m1:¬ Mut ry) (m2:¬ Mut rw)=>walk (sp:=sp) (sp':=sp') (L:=p.all 0) hmono hmut m1 m2 hy hyl (p.sz+1) p 0 0 []
 refine ZK fd111 (by simp) ?_;delta c111 Zj Zi Zq Zr Zg Zb;replace hEnd:=Zo8 hEnd;replace hStop:=Zo8 hStop;clear hy
 (repeat' (first | (simp only [↓ZF,ZG,ptrV,Zo5,Zo7,ZJ,setAt,Zo9,Znx,Zny,undef,ZgO,XB,Znl,ZiK,Zil, *]) | (refine ZH fun zr zh=>?_; have zg:=zh; (try simp only [Zpb] at zg); (try have zn_hrb:=Zo6 hrb zh); (try have zn_hrb:=Zo6 hrb zg.2); (try have zn_hrb:=Zo6 hrb zg.2.2))))
 rename_i ry ny ny' nq;have hs2:SubH H ((H.set ry (.cells 211 [y] 0)).set zr (.cells 212 [.func (.func 112) [] [ptrV ry 0,ptrV zr 0]] 0)):=(Zph ny).of_set zg.2;refine hw ry zr 0 0 (fun h=>hmut 0 H ry hI h ny) (fun h=>hmut 0 H zr hI h zg.2) _ _ (Zp8 _) (by simp) hs (by omega) (by omega) (hmono _ _ _ hI hs2) (by simp only [Zpf, *,if_true,if_false]<;>rfl) (Zpc _ _ _) (fun B hB _=>?_) (fun j B hB=>?_)
 ·rw [Zpu] at hB
  (repeat' (first | (simp only [↓ZF,boolV, *])))
  exact ⟨rfl,_,B,_,rfl,.refl _ _,hEnd.out B _ hB⟩
 ·(repeat' (first | (simp only [↓ZF,boolV, *])))
  exact ⟨rfl,_,B,_,rfl,.refl _ _,hStop.out j B _ hB⟩
end
end Go.PV.Ytglpmlbbaedbiaa
end
section
namespace Go.PV
open Go
def OutE (H0 H:AH) (e:TypeId) (k:Nat) (v:VV) (n:Nat) (cs:List VV):Prop:=(v=.slice true 0 []∧n=0∧cs=[]∧SubH H0 H)∨∃ Hb,SubH H0 Hb∧OwnX Hb H e k v n cs
section
variable {H0 H:AH} {e:TypeId} {k n:Nat} {v:VV} {cs:List VV}
theorem OutE.start (hs:SubH H0 H):OutE H0 H e k (.slice true 0 []) 0 []:=.inl ⟨rfl,rfl,rfl,hs⟩
theorem OutE.nil (hs:SubH H0 H):OutE H0 H e k (.lit (.slice none 0 0)) 0 []:=.inr ⟨H,hs,OwnX.nil _ _ _⟩
theorem OutE.sub (h:OutE H0 H e k v n cs):SubH H0 H:=by
 rcases h with ⟨_,_,_,h⟩ | ⟨Hb,h1,h2⟩
 ·exact h
 ·exact h1.trans h2.sub
theorem OutE.cells (h:OutE H0 H e k v n cs):v.cells=[v]∧VV.one v=true:=by
 rcases h with ⟨rfl,_⟩ | ⟨Hb,h1,h2⟩
 ·exact ⟨rfl,rfl⟩
 ·exact h2.cells
theorem OutE.alloc (h:OutE H0 H e k v n cs) {r:Nat} (hr:H r=none) (b:Blk):OutE H0 (H.set r b) e k v n cs:=by
 have hn:=h.sub.none hr;rcases h with ⟨h1,h2,h3,h⟩ | ⟨Hb,h1,h2⟩
 ·exact .inl ⟨h1,h2,h3,h.of_set hn⟩
 ·exact .inr ⟨Hb.set r b,h1.of_set hn,h2.alloc hr b⟩
theorem OutE.back (h:OutE H0 H e k v n cs):GhV H v H0 (.slice false n cs):=by
 rcases h with ⟨rfl,rfl,rfl,h⟩ | ⟨Hb,h1,h2⟩
 ·exact (GhV.imm _).trans (GhV.forget h _)
 ·exact GhV.back h2 h1
theorem OutE.ghost {i:Nat} {t:Nat→VV} {d:List Deferred} (h:OutE H0 H e k (t i) n cs) (N:Nat):Ghost N ⟨t,d⟩ H ⟨upd t i (.slice false n cs),d⟩ H0:=Ghost.slot (A:=⟨t,d⟩) h.back
theorem OutE.append {P:Program} {t b:Nat} {zs:List Value} {x:VV} {m:Nat} {news:List VV} {K:VE→AH→Prop} (h:OutE H0 H e k v n cs) (hel:elT P t=some (e,k,b)) (hz:zeroT P e=some zs) (hzk:zs.length=k) (hk:0<k) (hs:srcV H k x=some (m,news))
 (hone:news.all VV.one=true) (hb:(n+m) * b≤140737488355328) (h63:n+m≤9223372036854775807) (hnl:m=0→news=[]) (hK:∀ v' H',OutE H0 H' e k v' (n+m) (cs++news)→K (.ret v') H'):Zam P t v x H K:=by
 rcases h with ⟨rfl,rfl,rfl,h⟩ | ⟨Hb,h1,h2⟩
 ·refine Ww hel hz hzk hk (by simp) hs hone hb h63 (fun h0=>hK _ _ (.inl ⟨rfl,by omega,?_,h⟩)) (fun _ v' H' ho=>hK _ _ (.inr ⟨H,h,ho⟩));rw [hnl h0]; rfl
 ·exact Za0 hel hz hzk hk h2 hs hone hb h63 fun v' H' ho=>hK _ _ (.inr ⟨Hb,h1,ho⟩)
end
end Go.PV
end
section
namespace Go.PV
open Go
section
variable {cx:Cx} {Hi:Nat→AH} {K:AF→AH→Prop} {Q:APost} {A:AF} {H:AH}
theorem p2_fin:vcPl2 cx Hi .fin K Q A H=K A H:=rfl
def pl2K (cx:Cx) (Hi:Nat→AH) (p:GPlan) (K:AF→AH→Prop) (Q:APost) (H:AH):AF→AH→Prop:=fun A' _=>vcPl2 cx Hi p K Q A' H
theorem p2_pl2K (p:GPlan) (A':AF) (H':AH):pl2K cx Hi p K Q H A' H'=vcPl2 cx Hi p K Q A' H:=rfl
theorem p2_tkN (i:Nat) (d:Option Tmp) (op:Op) (p:GPlan):vcPl2 cx Hi (.tk i ⟨d,op,none⟩ p) K Q A H=vcDo cx ⟨d,op,none⟩ (pl2K cx Hi p K Q H) noQ A (Hi i):=rfl
def one2K (cx:Cx) (Hi:Nat→AH) (nd:List Nat) (p:GPlan) (K:AF→AH→Prop) (Q:APost) (H:AH):AF→AH→Prop:=fun A' H'=>(∀ k∈nd,SubH (Hi k) H→SubH (Hi k) H')∧vcPl2 cx Hi p K Q A' H'
theorem p2_oneN (nd:List Nat) (d:Option Tmp) (op:Op) (p:GPlan):vcPl2 cx Hi (.one nd ⟨d,op,none⟩ p) K Q A H=vcDo cx ⟨d,op,none⟩ (one2K cx Hi nd p K Q H) Q A H:=rfl
theorem p2_one2K (nd:List Nat) (p:GPlan) (A':AF) (H':AH):one2K cx Hi nd p K Q H A' H'=((∀ k∈nd,SubH (Hi k) H→SubH (Hi k) H')∧vcPl2 cx Hi p K Q A' H'):=rfl
end
theorem Zl3 {cx:Cx} {Q:APost} {A:AF} {H:AH} {id:Nat} {a:ACode} (h:ACx cx a (Xf id Q) A H):ACx cx (.block id a) Q A H:=by
 intro c hc;cases c with
 | block i x =>
   simp only [ZS,ACode.block.injEq] at hc;obtain ⟨rfl,h1⟩:=hc;exact Zhv (h x h1)
 | region id ops draw =>
   simp only [ZS] at hc;split at hc
   ·unfold YY at hc;dsimp only at hc;split at hc
    ·split at hc<;>cases hc
    ·cases hc
   ·split at hc<;>cases hc
 | seq x y=>simp only [ZS] at hc; split at hc<;>cases hc
 | _=>simp only [ZS] at hc; cases hc
end Go.PV
end
section
open Go.PV.AH renaming set_none→Zpb,ne_of→Zo6
open Go.PV.SubH renaming refl→Zpa,of_set→Zpi
open Int renaming reduceNeg→Zp1,reduceLE→ZpZ
open List renaming drop→Zo9
open Nat renaming reduceEqDiff→Zo5,reduceLT→Zo7
set_option maxRecDepth 20000
set_option maxHeartbeats 4000000
namespace Go.PV.Ytglpmlbbaedbiaa
open Go Go.Proofs
theorem delBd0 {f:VV} {H:AH} {K:VE→AH→Prop} (hK:K (.ret (bdsV [])) H):ZU Try.prog 53 [bdsV [],f] H K:=by
 refine ZK fd53 (by simp) ?_;delta c53 Zq Za Zo Zr Zc Zm
 (repeat' (first | (simp only [↓ZF,ZG,Zo5,Zo7,reduceCtorEq,ZJ,undef,Zp1,(show idxF (fun _:Bd=>false) [] = -1 from rfl),en_76, *]) | (refine ZM ?_) | (refine idxBd (l:=[]) (p:=fun _=>false) (.inl ⟨false,rfl⟩) (by simp) (fun i h=>absurd h (by simp)) ?_)))
theorem put1 {b:Bd} {op:Int} {name:ByteArray} {ks:VV} {e:TypeId} {r sp:Nat} {H:AH} (hr:H r=some (.cells e [iV op,sV name,ks] sp)):FnAt Try.prog (.func (.func 55) [] [ptrV r 0]) [bdV b] (boolV (decide (b.1=name))) H:=by
 refine FnAt.cap en_55 fun K hK=>?_
 refine ReadF.use (x:=boolV (decide (b.1=name))) ?_ hK;refine ZK fd55 (by simp) ?_;delta c55 Zj Zq Zd Zb Zn Zc
 (repeat' (first | (simp only [↓ZF,ZG,↓ZaP,ptrV,boolV,Zo5,Zo7,ZJ,Zo9,undef,ZiE,Yd,Ym, *]) | (refine ZM ?_) | (refine ZH fun zr zh=>?_; have zg:=zh; (try simp only [Zpb] at zg); (try have zn_hr:=Zo6 hr zh); (try have zn_hr:=Zo6 hr zg.2); (try have zn_hr:=Zo6 hr zg.2.2)) | (exact Zpa _) | (refine Zpi ?_ ?_)))
theorem back1 {y:VV} {l:List Bd} {rb sp:Nat} {Inv Stop:Nat→AH→Prop} {H:AH} {K:VE→AH→Prop} (hl:l.length≤1099511627776)
 (hI:Inv l.length H) (hbox:∀ k B,Inv k B→B rb=some (.cells 96 [bdsV l] sp))
 (hy:∀ k (h:k<l.length) B,Inv (k+1) B→∀ K':VE→AH→Prop,(∀ B',Inv k B'→K' (.ret (boolV true)) B')→(∀ B',Stop k B'→K' (.ret (boolV false)) B')→ACall Try.prog none y [iV k,bdV l[k]] B K')
 (hyl:∀ B xs K',XX Try.prog none y xs B K'=ACall Try.prog none y xs B K')
 (hEnd:∀ B u,Inv 0 B→K (.ret u) B) (hStop:∀ k (h:k<l.length) B u,Stop k B→K (.ret u) B) :
 ZU Try.prog 75 [y,ptrV rb 0] H K:=by
 refine ZK fd75 (by simp) ?_;delta c75 Zb Ze Zm Zc;have kb:=hbox _ _ hI;have w0:IntKind.i64.wrap ((l.length:Int)-1)=(l.length:Int)-1:=ZO (by omega) (by omega)
 (repeat' (first | (simp only [↓ZF,ZG,ptrV,intV,Zo5,Zo7,reduceCtorEq,ZJ,Zo9,undef,ldT_96,Zas, *])))
 refine ZY (fun _ _ _ h=>h) (fun A H'=>A.d=[]∧A.t 0=y∧A.t 1=ptrV rb 0∧∃ k:Nat,k≤l.length∧A.t 3=iV ((k:Int)-1)∧Inv k H')
  (fun A _=>match A.t 3 with | .lit (.int _ i)=>(i+1).toNat | _=>0) ?_ ?_
 ·exact ⟨rfl,rfl,rfl,l.length,by omega,rfl,hI⟩
 ·clear hI kb w0;rintro ⟨t,d⟩ H' ⟨rfl,h0,h1,k,hk,h3,hI⟩;dsimp only at h0 h1 h3;have kb:=hbox _ _ hI;delta b75_1 Za Zm Zr Zb Zk Zq Zc;cases k with
  | zero =>
    replace h3:t 3=iV (-1):=by rw [h3]; rfl
    (repeat' (first | (simp only [↓ZF,ZG,ptrV,Zo7,ZpZ,Zp1, *])))
    exact ⟨rfl,_,H',_,rfl,.refl _ _,hEnd H' _ hI⟩
  | succ j =>
    replace h3:t 3=iV j:=by rw [h3]; congr 3; omega
    have hj:j<l.length:=by omega
    (repeat' (first | (simp only [↓ZF,ZG,ptrV,Zo5,Zo7,reduceCtorEq,Zo9,ZjS,ldT_96,ZjK,Zas, *])))
    refine hy j hj H' hI _ (fun B' hB=>?_) (fun B' hB=>?_)
    ·(repeat' (first | (simp only [↓ZF,ZG,ptrV,boolV,Zo5,Zo7,reduceCtorEq, *]) | (with_reducible refine And.intro ?_ ?_)))
     all_goals rw [ZO (n:=(j:Int)-1) (by omega) (by omega)]
     ·exact ⟨j,by omega,rfl,hB⟩
     ·omega
    ·(repeat' (first | (simp only [↓ZF,ZG,boolV,Zo5,Zo7, *])))
     exact ⟨rfl,_,B',_,rfl,.refl _ _,hStop j hj B' _ hB⟩
theorem backw {l:List Bd} {H:AH} {K:VE→AH→Prop} (h:∀ rb,H rb=none→K (.ret (.func (.func 75) [] [ptrV rb 0])) (H.set rb (.cells 96 [bdsV l] 0))):ZU Try.prog 52 [bdsV l] H K:=by
 refine ZK fd52 (by simp) ?_;delta c52 Zj Zq Zr Zc
 (repeat' (first | (simp only [↓ZF,ZG,ptrV,Zo5,Zo7,ZJ,Ze5,undef, *]) | (refine ZM ?_) | (refine ZH fun zr zh=>?_; have zg:=zh; (try simp only [Zpb] at zg))))
 exact h _ (by assumption)
end Go.PV.Ytglpmlbbaedbiaa
end
section
open List renaming eq_nil_of_length_eq_zero→ZpY,getElem?_eq_none→Zqd
namespace Go.PV
open Go
def Zip (x:VV) (want:Bool) (cx:Cx) (d:Option Tmp) (op:Op) (k:AF→AH→Prop) (Q:APost) (A:AF) (H:AH):Prop :=
 match x with
 | .lit (.bool t)=>(if t=want then vcDo cx ⟨d,op,none⟩ k Q A H else (dOk cx.N d∧Yb cx.P op A∧k (A.put d ZJ) H))
 | .lit (.tuple _)=>dOk cx.N d∧Yb cx.P op A∧k (A.put d ZJ) H
 | _=>False
def vcG2 (cx:Cx) (o:GOp) (k:AF→AH→Prop) (Q:APost) (A:AF) (H:AH):Prop :=
 match o.g with
 | none=>vcDo cx ⟨o.dst,o.op,none⟩ k Q A H
 | some (d,want)=>Zip (A.t d) want cx o.dst o.op k Q A H
def vcL2 (cx:Cx):List GOp→APost→AF→AH→Prop
 | [],Q=>Q .normal
 | o::l,Q=>vcG2 cx o (vcL2 cx l Q) Q
section
variable {cx:Cx} {Q:APost} {S:Nat→Prop} {H:AH} {w:World} {A:AF} {a:Act}
theorem Zl4 {ops:Array Oper} {o:Oper} {next:AF→AH→Prop} (hg:gOk ops o=true) (h:vcG2 cx (gopOf ops o) next Q A H) {S0:Nat→Prop} {H0:AH} {w0:World} (k:Step S0 H0 w0 S H w) (hs:Sim S H w) (hf:RvF cx.N S w A a) (nx:Act→World→Prop)
 (h1:∀ S' H' A' a' w',Step S0 H0 w0 S' H' w'→Sim S' H' w'→RvF cx.N S' w' A' a'→next A' H'→nx a' w') :
 if Region.wanted o (yielded ops a.tmps) then o.wpIn (Xp cx.P cx.ro) 0 cx.P a w nx (LQ cx Q S0 H0 w0) else (∀ f,o.about cx.P w a.eval=some f→(Xp cx.P cx.ro).fn f)∧nx (a.put o.dst undef) w:=by
 unfold vcG2 at h;split at h
 ·rename_i he;refine Zc2 hg ?_ k hs hf nx h1;unfold vcG;rw [he];exact h
 ·rename_i d want he;unfold Zip at h;split at h
  ·rename_i b hb;refine Zc2 hg ?_ k hs hf nx h1;unfold vcG;rw [he];simp only [hb];exact h
  ·rename_i vs hb;have hw:=ZgI (ops:=ops) (o:=o) hf he hb;rw [hw,if_neg (by simp)];refine ⟨ZbW h.2.1 hf,h1 S H _ _ w k hs (RvF.put hf (x:=ZJ) (u:=undef) ?_ rfl) h.2.2⟩;intro d' hd';have h2:dOk cx.N o.dst:=h.1;rw [hd'] at h2;exact h2
  ·exact h.elim
theorem Zg1 {ops:Array Oper}:∀ (is:List Nat) (l:List Oper) (A:AF) (H:AH) (S:Nat→Prop) (w:World) (a:Act) (S0:Nat→Prop) (H0:AH) (w0:World),
 (∀ j:Nat,l[j]?=(is[j]?).bind fun i:Nat=>ops[i]?)→is.length=l.length→(∀ o∈l,gOk ops o=true)→vcL2 cx (l.map (gopOf ops)) Q A H→Step S0 H0 w0 S H w→Sim S H w→RvF cx.N S w A a →
 wpOpsIn (Xp cx.P cx.ro) 0 cx.P ops (LQ cx Q S0 H0 w0) is a w
 | [],l,A,H,S,w,a,S0,H0,w0,hl,hlen,hg,h,k,hs,hf=>by
   have:l=[]:=ZpY (by simpa using hlen.symm)
   subst this;exact ⟨by simp,S,H,A,k,hs,hf,h⟩
 | i::is,[],A,H,S,w,a,S0,H0,w0,hl,hlen,hg,h,k,hs,hf=>by simp at hlen
 | i::is,o::l,A,H,S,w,a,S0,H0,w0,hl,hlen,hg,h,k,hs,hf=>by
   have ho:ops[i]?=some o:=by have:=hl 0; simpa using this.symm
   simp only [wpOpsIn,ho]
   exact Zl4 (hg o (by simp)) h k hs hf _ fun S' H' A' a' w' g1 g2 g3 g4 =>
    Zg1 is l A' H' S' w' a' S0 H0 w0 (fun j=>by have:=hl (j+1); simpa using this) (by simpa using hlen) (fun o' ho'=>hg o' (by simp [ho'])) g4 g1 g2 g3
theorem Zl5 {id:Nat} {ops:Array Oper} (hg:ops.all (gOk ops)=true) (h:vcL2 cx (ops.toList.map (gopOf ops)) Q A H):AC cx (.region id ops false) Q A H:=by
 intro S w a hs hf;refine wpIn_region (Zg1 (List.range ops.size) ops.toList A H S w a S H w ?_ (by simp) ?_ h (.refl _ _ _) hs hf)
 ·intro j;by_cases hj:j<ops.size
  ·rw [List.getElem?_range hj];simp
  ·rw [Zqd (by simpa using hj),Zqd (by simpa using hj)];rfl
 ·intro o ho;exact Array.all_eq_true_iff_forall_mem.1 hg o (by simpa using ho)
end
theorem Zjt {P:Program} {ops:Array Oper} {l:List GOp}:YY P ops ≠ .reg l:=by
 unfold YY;dsimp only;split
 ·split
  ·intro h; cases h
  ·intro h; cases h
 ·intro h; cases h
theorem acx_reg2 {cx:Cx} {l:List GOp} {Q:APost} {A:AF} {H:AH} (h:vcL2 cx l Q A H):ACx cx (.reg l) Q A H:=by
 intro c hc;cases c with
 | region id ops draw =>
   simp only [ZS] at hc;split at hc
   ·exact absurd hc Zjt
   ·rename_i hd;have hd':draw=false:=by simpa using hd
    subst hd';split at hc
    ·rename_i hg
     injection hc with hc
     subst hc;exact Zl5 hg h
    ·cases hc
 | seq x y=>simp only [ZS] at hc; split at hc<;>cases hc
 | _=>simp only [ZS] at hc; cases hc
theorem acx_seqA {cx:Cx} {a b:ACode} {Q:APost} {K:AF→AH→Prop} {A:AF} {H:AH} (hK:∀ A H,K A H→ACx cx b Q A H) (h:ACx cx a (thenA K Q) A H):ACx cx (.seq a b) Q A H:=by
 intro c hc;cases c with
 | seq x y =>
   simp only [ZS] at hc;split at hc
   ·cases hc
   ·injection hc with h1 h2
    refine Zj7 ((h x h1).mono ?_);intro e A' H' hq;cases e with
    | normal=>exact hK A' H' hq y h2
    | _=>exact hq
 | region id ops draw =>
   simp only [ZS] at hc;split at hc
   ·exact absurd hc ZeC
   ·split at hc<;>cases hc
 | _=>simp only [ZS] at hc; cases hc
section
variable {cx:Cx} {Q:APost} {k:AF→AH→Prop} {A:AF} {H:AH} {d:Option Tmp} {op:Op} {l:List GOp}
@[congr] theorem guard2_congr {x x':VV} {want:Bool} (h:x=x'):Zip x want cx d op k Q A H=Zip x' want cx d op k Q A H:=by rw [h]
end
end Go.PV
end
section
open Bool renaming and_self→Zp3
open Go.PV.AH renaming set_none→Zpb,ne_of→Zo6,set_same→Zpc,get→Zpf,set_set→ZpA,set_ne→Zpg
open Go.PV.GhV renaming forget→ZpB
open Go.PV.Hold renaming mk→Zo8
open Go.PV.PureF renaming use→Zpe
open Go.PV.SubH renaming new→Zph,refl→Zpa
open Int renaming toNat_natCast→ZpW,reduceEq→ZpE
open List renaming map_cons→Zpp,drop→Zo9,map_nil→Zpw,length_cons→Zpx,length_nil→Zp0,cons_append→Zp6,append_nil→Zp2,all_cons→ZpU,set_cons_zero→Zp5,set_cons_succ→Zp4,take_of_length_le→ZpD,drop_zero→ZpV,drop_eq_getElem_cons→ZpI,take_append_drop→Zqi,length_drop→Zp7,append_assoc→Zqc,getElem_mem→Zpk,getD_cons_zero→ZpN,getD_cons_succ→ZpK,getD_nil→ZpL
open Nat renaming reduceEqDiff→Zo5,reduceLT→Zo7,reduceAdd→Zpd,reduceLeDiff→Zpo,reduceMul→ZpQ,succ_ne_self→Zpv,zero_add→Zpu,le_refl→Zpl,add_zero→ZpO,lt_or_ge→ZpJ
open Option renaming bind_some→ZpH,map_some→Zps,map_none→ZpS
set_option maxRecDepth 20000
set_option maxHeartbeats 4000000
namespace Go.PV.Ytglpmlbbaedbiaa
open Go Go.Proofs
def lastB (l:List Bd) (n:ByteArray):Option Ex:=(l.reverse.find? fun b=>decide (b.1=n)).map (·.2)
mutual
def Ex.put:Ex→List Bd→Ex
 | .mk op n ks,l=>match (if op=1 then lastB l n else none) with
   | some e=>e
   | none=>.mk op n (ZdL ks (if op=5 then l.filter (fun b=>!decide (b.1=n)) else l))
def ZdL:List Ex→List Bd→List Ex
 | [],_=>[]
 | k::ks,l=>k.put l::ZdL ks l
end
theorem ZiY:∀ (ks:List Ex) (l:List Bd),ZdL ks l=ks.map (·.put l)
 | [],_=>rfl
 | k::ks,l=>by rw [ZdL,Zpp,ZiY ks l]
theorem Ex.put_eq (e:Ex) (l:List Bd):e.put l=match (if e.op=1 then lastB l e.name else none) with
 | some x=>x
 | none=>.mk e.op e.name (e.kids.map (·.put (if e.op=5 then l.filter (fun b=>!decide (b.1=e.name)) else l))):=by
 cases e; rw [Ex.put,ZiY]; rfl
def Zx:List VV:=[.lit (.int .i64 0),.lit (.string { data:=#[] }),.lit (.slice none 0 0)]
def Zfr (Q:APost):APost
 | .ret=>Q .ret
 | _=>fun _ _=>False
theorem Zl6 (Q:APost):Zbi (Zfr Q):=fun _ _ _ h=>h
theorem ZkJ (Q:APost):panQ (Zfr Q):=fun _ _ _ _ _ h=>h.elim
theorem Zl7 {cx:Cx} {a:ACode} {Q:APost} {A:AF} {H:AH} (h:ACx cx a (Zfr Q) A H):ACx cx a Q A H:=fun c hc=>(h c hc).mono fun e A H hq=>by
 cases e with
 | ret=>exact hq
 | _=>exact hq.elim
theorem Zfb {op:Int} {nm:ByteArray} {kids:List Ex} {l:List Bd} {t:Nat→VV} {d:List Deferred} {B:AH} {r2 r4:Nat} {Q:APost} (hN:kids.length≤1099511627776)
 (ih:∀ i (h:i<kids.length),PureF Try.prog 36 [exV kids[i],bdsV l] (exV (kids[i].put l)))
 (h1:t 1=bdsV l) (h2:t 2=ptrV r2 0) (h4:t 4=ptrV r4 0) (k2:B r2=some (.cells 34 [iV op,sV nm,encS exE kids] 0)) (k4:B r4=some (.cells 34 Zx 0))
 (hK:∀ t' r,B r=none→t' 4=ptrV r4 0→Q .ret ⟨t',d⟩ ((B.set r (.cells 34 [iV op,sV nm,encS exE (kids.map (·.put l))] 0)).set r4 (.cells 34 [iV op,sV nm,encS exE (kids.map (·.put l))] 0))) :
 ACx ⟨Try.prog,53,none⟩ c36_2 Q ⟨t,d⟩ B:=by
 refine Zl7 ?_;have hQ:=Zl6 Q;have hP:=ZkJ Q;replace hK:∀ t' r,B r=none→t' 4=ptrV r4 0→Zfr Q .ret ⟨t',d⟩ ((B.set r (.cells 34 [iV op,sV nm,encS exE (kids.map (·.put l))] 0)).set r4 (.cells 34 [iV op,sV nm,encS exE (kids.map (·.put l))] 0)):=hK;generalize Zfr Q=Q at *
 refine Ya rfl hQ ?_;delta c36_2 Zd Zb Zq Zr Zi Zg Ze
 (repeat' (first | (simp only [↓ZF,ZG,ptrV,intV,Zo5,Zo7,Zpd,Zpo,reduceCtorEq,ZQ,fillV,setAt,Zo9,ZW,ZT,Yd,Yk,Yg,Ym,YE,JR,Yc,ZZ, *]) | (refine ZH fun zr zh=>?_; have zg:=zh; (try simp only [Zpb] at zg); (try have zn_k2:=Zo6 k2 zh); (try have zn_k2:=Zo6 k2 zg.2); (try have zn_k2:=Zo6 k2 zg.2.2); (try have zn_k4:=Zo6 k4 zh); (try have zn_k4:=Zo6 k4 zg.2); (try have zn_k4:=Zo6 k4 zg.2.2))))
 obtain ⟨ks,hks⟩:∃ ks,ks=kids.map (·.put l):=⟨_,rfl⟩
 have hkl:ks.length=kids.length:=by rw [hks]; simp
 have hki:∀ i (h:i<kids.length) (h':i<ks.length),kids[i].put l=ks[i]:=fun i h h'=>by simp only [hks,List.getElem_map]
 rw [← hks] at hK;clear hks
 have hin:InB B (B.set zr (.cells 34 [iV op,sV nm,.lit (.slice none 0 0)] 0)) zr 34 [iV op,sV nm] [] 34 3 0 [] (.lit (.slice none 0 0)) _ :=
  InB.start (Zpc _ _ _) (Zph zh) zh
 refine ZY hQ (fun A H=>A.d=d∧A.t 1=bdsV l∧A.t 4=ptrV r4 0∧A.t 7=ptrV zr 0∧A.t 37=exsV kids∧A.t 38=iV kids.length∧∃ (i:Nat) (v:VV) (Hb:AH),i≤kids.length∧A.t 39=iV i∧InB B H zr 34 [iV op,sV nm] [] 34 3 i (encC exE (ks.take i)) v Hb)
  (fun A _=>match A.t 39 with | .lit (.int _ i)=>((kids.length:Int)-i).toNat | _=>0) ?_ ?_
 ·exact ⟨rfl,(by simp only [ZI,Zo5,if_false, *]<;>rfl),(by simp only [ZI,Zo5,if_false, *]<;>rfl),(by simp only [ZI,Zo5,if_true,if_false, *]<;>rfl),(by simp only [ZI,Zo5,if_true,if_false, *]<;>rfl),(by simp only [ZI,Zo5,if_true,if_false, *]<;>rfl),0,_,_,by omega,(by simp only [ZI,Zo5,if_true,if_false, *]<;>rfl),hin⟩
 ·clear hin h1 h2 h4;rintro ⟨t,d'⟩ H ⟨rfl,h1,h4,h7,h37,h38,i,v,Hb,hi,h39,hb⟩;dsimp only at h1 h4 h7 h37 h38 h39;have q7:=hb.at;delta b36_1 Zn Zr Zk Zb Zi Zg Zd Za Zo Zq Zl Zm
  (repeat' (first | (refine ZR mixed (fun c A A' H e h=>hP c A A' H e h) _ (Zpa _) ?_) | (simp only [↓Wj,↓Xx,↓Xy,↓Xm,↓YS,↓Zkg,↓WO,↓XA,↓Yo,↓Ys,↓ZgQ,↓ZoY,↓YJ,↓YG,↓WP,↓YH,↓WQ,↓YI,↓Wk,↓ZI,↓YV,↓YR,↓Wu,↓Wc,↓XQ,↓ZbX,↓Yj,↓Xv,↓Jy,↓Xk,↓YX,↓ZhE,↓XW,ptrV,Zpp,Zpw,Zpx,Zp0,Zp6,List.nil_append,Zp2,ite_true,ite_false,Zo5,Zo7,Zpd,ZpQ,Zpo,ne_eq,not_false_eq_true,true_and,Zpv,decide_true,decide_false,Int.natCast_nonneg,ZpW,↓Wv,↓XR,↓Jl,Zpf,ZpA,fillV,setAt,ZpU,List.all_nil,Zp3,eq_self,Zpu,Zo9,and_self,We,XY,Int.ofNat_lt,JH,JS,Xw,JN,Zp5,Zp4,↓XS,Xt,Zpl,Zbc,Wf,Jo,Zeb,Zbo,Wg,Zbd,XF,Jj,Zbe,Zbf,↓Zay,↓Zcu,ZN,List.replicate_succ,List.replicate_zero,List.flatten_cons,List.flatten_nil,WL,ZN,ZW,Ye,Yk,YE,Yc,ZZ,ZoO, *]) | (refine Yf ?_ ?_<;>intro) | (refine ZH fun zr zh=>?_; have zg:=zh; (try simp only [Zpb] at zg); (try have zn_q7:=Zo6 q7 zh); (try have zn_q7:=Zo6 q7 zg.2); (try have zn_q7:=Zo6 q7 zg.2.2)) | (exact Zpa _) | (refine Zpe (ih _ (by assumption)) ?_) | (with_reducible refine And.intro ?_ ?_)))
  ·have hlt:i<kids.length:=by assumption
   have hb1:=hb.alloc (by assumption) (.cells 34 [iV kids[i].op,sV kids[i].name,encS exE kids[i].kids] 0);refine XJ ZZ Yc rfl (by omega) hb1.own rfl rfl (by omega) (by omega) (fun v' H' ho=>?_);have hb2:=hb1.next ho;have q7':=ho.sub _ _ hb1.blk;have hc1:=ho.cells.1;have hc2:=ho.cells.2;clear hb1 hb q7 ho
   (repeat' (first | (simp only [↓ZF,ZG,ptrV,Zo5,Zo7,Zpd,setAt,ZW,ZmJ, *]) | (with_reducible refine And.intro ?_ ?_)))
   all_goals rw [ZO (n:=(i:Int)+1) (by omega) (by omega)]
   ·rw [← ZjT (by omega)] at hb2;exact ⟨i+1,v',_,by omega,rfl,hb2⟩
   ·omega
  ·have hie:i=kids.length:=by omega
   subst hie;rw [ZpD (by omega)] at hb;refine JY (hb.ghost _ _) ?_;have n7:=hb.new;have hx:Blk.cells 34 ([iV op,sV nm]++[.slice false kids.length (encC exE ks)]) 0=.cells 34 [iV op,sV nm,encS exE ks] 0:=by rw [← hkl]; rfl
   rw [hx];clear hb q7 hx;have d47:=Zo6 k4 n7;refine Ya rfl hQ ?_;delta c36_1 Zb Zg
   (repeat' (first | (simp only [↓ZF,ZG,ptrV,Zo5,Zo7,Zpd,setAt,Zo9,Zx,Ye,YE, *])))
   exact hK _ _ n7 (by simp only [ZI,Zo5,if_false, *]<;>rfl)
def ptX (H0:AH) (x:VV):VE→AH→Prop:=fun e H'=>∃ y,e=VE.ret y∧GhV H' y H0 x
theorem ZbF {H0 H:AH} {t:Nat→VV} {r4 sp:Nat} {a b c x:VV} {e':TypeId} (h4:t 4=ptrV r4 0) (k4:H r4=some (.cells e' [a,b,c] sp)) (hg:GhV H (.agg [a,b,c]) H0 x):XM Try.prog [.cell 4 34] (ptX H0 x) t [] .returning H:=by
 refine ⟨_,H,_,?_,.refl _ _,_,rfl,hg⟩;simp only [resV,Xi,Xh,Ye,h4,k4,ptrV,ZpV,XY,ZpH,Zps,tupV]
theorem Za2 {cx:Cx} {a:ACode} {Q:APost} {t:Nat→VV} {d:List Deferred} {H:AH} (p:(Nat→VV)→AH→Prop) (hp:p t H) (h:∀ t' H',p t' H'→ACx cx a Q ⟨t',d⟩ H'):ACx cx a Q ⟨t,d⟩ H:=h t H hp
theorem Zl8 {l:List Bd} {n:ByteArray} (h:∀ j (h:j<l.length),¬ l[j].1=n):lastB l n=none:=by
 unfold lastB;rw [List.find?_eq_none.2,ZpS];intro b hb;obtain ⟨j,hj,rfl⟩:=List.getElem_of_mem (List.mem_reverse.1 hb);simpa using h j hj
theorem Zl9 {l:List Bd} {n:ByteArray} {k:Nat} (hk:k<l.length) (h1:l[k].1=n) (h:∀ j (h:j<l.length),k<j→¬ l[j].1=n):lastB l n=some l[k].2:=by
 unfold lastB;have e:l=l.take k++l[k]::l.drop (k+1):=by rw [← ZpI hk,Zqi]
 have h2:(l.drop (k+1)).reverse.find? (fun b=>decide (b.1=n))=none:=by
  rw [List.find?_eq_none];intro b hb;obtain ⟨j,hj,rfl⟩:=List.getElem_of_mem (List.mem_reverse.1 hb);rw [List.getElem_drop];simpa using h (k+1+j) (by rw [Zp7] at hj; omega) (by omega)
 have h3:l.reverse.find? (fun b=>decide (b.1=n))=some l[k]:=by
  conv=>lhs; rw [e]
  rw [List.reverse_append,List.reverse_cons,Zqc,List.find?_append,h2,List.find?_append];simp [h1]
 rw [h3]; rfl
theorem ZmV:∀ (n:Nat) (e:Ex) (l:List Bd),e.sz<n→e.sz≤1099511627776→l.length≤1099511627776→PureF Try.prog 36 [exV e,bdsV l] (exV (e.put l)):=by
 intro n
 induction n with
 | zero=>intro e l h; omega
 | succ n ih =>
   intro e l h0 hs hl;have z1:=e.sz_eq;have hkl:=YL e.kids;have hN:e.kids.length≤1099511627776:=by omega
   have ih':∀ (l:List Bd),l.length≤1099511627776→∀ i (h:i<e.kids.length),PureF Try.prog 36 [exV e.kids[i],bdsV l] (exV (e.kids[i].put l)):=fun l hl i h=>ih _ l (by have:=ZX (Zpk h); omega) (by have:=ZX (Zpk h); omega) hl
   clear ih z1 hkl h0 hs;refine Wl.pure fun H0=>?_
   refine Jf fd36 (by simp) ?_;delta c36 Zj Zi Zd Zb Zm Zc Zr Za Zo Zg Zn Zq;by_cases h1:e.op=1
   ·have hp:e.put l=match lastB l e.name with | some x=>x | none=>.mk e.op e.name (e.kids.map (·.put l)):=by
     have h5:¬ e.op=5:=by omega
     rw [e.put_eq,if_pos h1];cases lastB l e.name<;>simp [h5]
    obtain ⟨X,hX⟩:∃ X,X=e.put l:=⟨_,rfl⟩
    rw [← hX];rw [hp,h1] at hX;clear hp;replace hX:=Zo8 hX
    (repeat' (first | (refine backw (fun rb nb=>?_)) | (simp only [↓Xx,↓Xy,↓Zbm,↓Xm,↓Xc,↓YS,↓ZgP,↓XA,↓Yo,↓Ys,↓YJ,↓YG,↓YH,↓YI,↓YT,↓Wk,↓ZI,↓YV,↓YB,↓YR,↓Wc,↓XQ,↓Zax,↓Yj,↓Xk,↓YX,↓YK,ptrV,Zpp,Zpw,ZpN,ZpK,ZpL,ite_true,ite_false,Zo5,Zo7,ne_eq,not_false_eq_true,true_and,Zpv,decide_true,ZJ,Zpf,eq_self,ZpO,Zo9,We,Xw,↓XS,Xt,↓Zaz,Wf,Jo,Wg,XF,Jj,undef,ZT,Yg,Yc,en_52, *]) | (refine ZH fun zr zh=>?_; have zg:=zh; (try simp only [Zpb] at zg))))
    rename_i r2 n2 n2';have n24:=zg.1;simp only [Zpb] at nb;obtain ⟨Hx,hHx⟩:∃ Hx,Hx=((H0.set r2 (.cells 34 [iV 1,sV e.name,encS exE e.kids] 0)).set zr (.cells 34 Zx 0)).set rb (.cells 96 [bdsV l] 0):=⟨_,rfl⟩
    have x2:Hx r2=some (.cells 34 [iV 1,sV e.name,encS exE e.kids] 0):=by subst hHx; exact (by simp only [Zpf, *,if_true,if_false]<;>rfl)
    have x4:Hx zr=some (.cells 34 Zx 0):=by subst hHx; exact (by simp only [Zpf, *,if_true,if_false]<;>rfl)
    have xb:Hx rb=some (.cells 96 [bdsV l] 0):=by subst hHx; exact (by simp only [Zpf, *,if_true,if_false]<;>rfl)
    have xs:SubH H0 Hx:=by subst hHx; exact ((Zph n2).of_set zg.2).of_set nb.2.2
    show ACx _ _ _ _ (((H0.set r2 (.cells 34 [iV 1,sV e.name,encS exE e.kids] 0)).set zr (.cells 34 Zx 0)).set rb (.cells 96 [bdsV l] 0));rw [← hHx];have g2:H0 r2=none:=n2;have g4:H0 zr=none:=zg.2;clear hHx nb n24 zg zh n2 n2';have hgen:∀ (t:Nat→VV),t 1=bdsV l→t 2=ptrV r2 0→t 4=ptrV zr 0→t 15=.func (.func 75) [] [ptrV rb 0]→True:=fun _ _ _ _ _=>trivial
    clear hgen;refine Za2 (fun t H=>H=Hx∧t 1=bdsV l∧t 2=ptrV r2 0∧t 4=ptrV zr 0∧t 15=.func (.func 75) [] [ptrV rb 0]) ⟨rfl,(by simp only [ZI,Zo5,if_false, *]<;>rfl),(by simp only [ZI,Zo5,if_true,if_false, *]<;>rfl),(by simp only [ZI,Zo5,if_true,if_false, *]<;>rfl),(by simp only [ZI,Zo5,if_true,if_false, *]<;>rfl)⟩ ?_;rintro t H ⟨rfl,t1,t2,t4,t15⟩;refine ZbE rfl (.inl t15) (by kernel_rfl) ?_;intro r l0 fn ca cb hca hcb hr hl0 hne hfn;have e1:=Zo6 x2 hr;have e2:=Zo6 x2 hl0;have e3:=Zo6 x4 hr;have e4:=Zo6 x4 hl0;have e5:=Zo6 xb hr;have e6:=Zo6 xb hl0
    refine back1 (sp:=0) (Inv:=fun k B=>SubH (H.set r (.obj (.deferred (some [])))) B∧B l0=some (.loop .ready none fn 53 t #[16,17] ca cb r)∧∀ j (h:j<l.length),k≤j→¬ l[j].1=e.name)
     (Stop:=fun k B=>∃ h:k<l.length,B l0=some (.loop .done (some .ret) fn 53 t #[16,17] ca cb r)∧B r=some (.obj (.deferred (some [])))∧B zr=some (.cells 34 [iV l[k].2.op,sV l[k].2.name,encS exE l[k].2.kids] 0)∧SubH H0 B∧lastB l e.name=some l[k].2) hl ?_ ?_ ?_ (fun _ _ _=>rfl) ?_ ?_
    ·exact ⟨Zph (by rw [Zpg _ _ hne]; exact hl0),Zpc _ _ _,fun j h hj=>by omega⟩
    ·rintro k B ⟨hB,_⟩;exact hB _ _ (by rw [Zpf,if_neg e5.1]; exact xb)
    ·rintro k hk B ⟨hB,hBl,hno⟩ K' hk1 hk2;have q2:B r2=some (.cells 34 [iV 1,sV e.name,encS exE e.kids] 0):=hB _ _ (by rw [Zpf,if_neg e1.1]; exact x2);have q4:B zr=some (.cells 34 Zx 0):=hB _ _ (by rw [Zpf,if_neg e3.1]; exact x4);have qr:B r=some (.obj (.deferred (some []))):=hB _ _ (Zpc _ _ _);have hsB:SubH H0 B:=fun i bk h=>hB _ _ (by rw [Zpf,if_neg (Zo6 (xs _ _ h) hr).1]; exact xs _ _ h)
     refine Zad (l:=l0) (pe:=none) (fn:=fn) (N:=53) (t:=t) (ps:=#[16,17]) («asg»:=ca) (bd:=cb) (ds:=r) hBl rfl (by simp) hfn ?_;refine ZdD hca ?_
     (repeat' (first | (simp only [↓ZF,ZG,ptrV,Zo5,Zo7,Zpd,setAt,Zat,Znh,WF, *]) | (refine Ya rfl (fun _ _ _ h=>h) ?_) | (refine ZH fun zr zh=>?_; have zg:=zh; (try simp only [Zpb] at zg); (try have zn_q2:=Zo6 q2 zh); (try have zn_q2:=Zo6 q2 zg.2); (try have zn_q2:=Zo6 q2 zg.2.2); (try have zn_q4:=Zo6 q4 zh); (try have zn_q4:=Zo6 q4 zg.2); (try have zn_q4:=Zo6 q4 zg.2.2); (try have zn_qr:=Zo6 qr zh); (try have zn_qr:=Zo6 qr zg.2); (try have zn_qr:=Zo6 qr zg.2.2); (try have zn_hBl:=Zo6 hBl zh); (try have zn_hBl:=Zo6 hBl zg.2); (try have zn_hBl:=Zo6 hBl zg.2.2)) | (with_reducible refine And.intro ?_ ?_)))
     ·exact ⟨none,rfl⟩
     ·intro pe;refine ZdD hcb ?_
      (repeat' (first | (simp only [↓ZF,ZG,↓ZaP,ptrV,Zo5,Zo7,Zpd,reduceCtorEq,setAt,Zo9,Zx,Yd,ZiE,Zn2,Ye,Ym,YE, *]) | (refine Yf ?_ ?_<;>intro) | (refine Ya rfl (fun _ _ _ h=>h) ?_)))
      ·have hn:l[k].1=e.name:=by assumption
       have hne':¬ r=l0:=fun e=>hne e.symm
       have dz:=zn_q4;have dl:=zn_hBl;have dr:=zn_qr;refine ⟨⟨pe,(by simp only [Zpf, *,if_true,if_false]<;>rfl)⟩,hk2 _ ⟨hk,Zpc _ _ _,(by simp only [Zpf, *,if_false]<;>rfl),(by simp only [Zpf, *,if_true,if_false]<;>rfl),?_,Zl9 hk hn fun j h hj=>hno j h (by omega)⟩⟩;exact (((hsB.of_set (hsB.none zh)).of_set (xs.none hl0)).of_set g4).of_set (xs.none hl0)
      ·have hn:¬ l[k].1=e.name:=by assumption
       refine ⟨⟨pe,Zpc _ _ _⟩,hk1 _ ⟨?_,Zpc _ _ _,fun j h hj=>?_⟩⟩
       ·rw [ZpA];exact (hB.of_set (hB.none zh)).of_set (by rw [Zpg _ _ hne]; exact hl0)
       ·rcases ZpJ k j with h' | h'
        ·exact hno j h (by omega)
        ·obtain rfl:j=k:=by omega
         exact hn
    ·rintro B u ⟨hB,hBl,hno⟩;refine ⟨.ready,none,hBl,by simp,?_⟩;have q2:(B.del l0) r2=some (.cells 34 [iV 1,sV e.name,encS exE e.kids] 0):=by rw [AH.del_get,if_neg e2.1]; exact hB _ _ (by rw [Zpf,if_neg e1.1]; exact x2)
     have q4:(B.del l0) zr=some (.cells 34 Zx 0):=by rw [AH.del_get,if_neg e4.1]; exact hB _ _ (by rw [Zpf,if_neg e3.1]; exact x4)
     have qr:(B.del l0) r=some (.obj (.deferred (some []))):=by rw [AH.del_get,if_neg (Ne.symm hne)]; exact hB _ _ (Zpc _ _ _)
     have hsB:SubH H0 (B.del l0):=SubH.del (fun i bk h=>hB _ _ (by rw [Zpf,if_neg (Zo6 (xs _ _ h) hr).1]; exact xs _ _ h)) (xs.none hl0);have hXe:X=.mk 1 e.name (e.kids.map (·.put l)):=by rw [hX.out,Zl8 fun j h=>hno j h (Nat.zero_le _)]
     rw [hXe];clear hX hXe hB hBl hno;generalize B.del l0=B at *
     (repeat' (first | (simp only [↓ZF, *])))
     refine Zfb (op:=1) (nm:=e.name) (kids:=e.kids) (l:=l) (r2:=r2) (r4:=zr) hN (ih' l hl) t1 t2 t4 q2 q4 (fun t' r' hr' h4=>?_);have d1:=Zo6 qr hr';have d2:=Zo6 q4 hr';refine ⟨by simp,(by simp only [Zpf, *,if_false]<;>rfl),?_⟩;refine ZbF (sp:=0) h4 (by simp only [AH.del_get,Zpf, *,if_true,if_false]<;>rfl) (ZpB ?_ _);exact SubH.del ((hsB.of_set (hsB.none hr')).of_set g4) (xs.none hr)
    ·rintro k hk B u ⟨_,hBl,qr,q4,hsB,hlb⟩;refine ⟨.done,some .ret,hBl,by simp,?_⟩;have hXe:X=l[k].2:=by rw [hX.out,hlb]
     rw [hXe];show XM Try.prog [.cell 4 34] _ t [WS r] .returning (B.del l0);refine ⟨by simp,by rw [AH.del_get,if_neg (Ne.symm hne)]; exact qr,?_⟩;refine ZbF (sp:=0) t4 (by rw [AH.del_get,if_neg e3.1,AH.del_get,if_neg e4.1]; exact q4) (ZpB ?_ _);exact (hsB.del (xs.none hl0)).del (xs.none hr)
   ·by_cases h5:e.op=5
    ·have hp:e.put l=.mk e.op e.name (e.kids.map (·.put (l.filter fun b=>!decide (b.1=e.name)))):=by rw [e.put_eq,if_neg h1,if_pos h5]
     rw [hp];have hlf:(l.filter fun b=>!decide (b.1=e.name)).length≤1099511627776:=by have:=List.length_filter_le (fun b:Bd=>!decide (b.1=e.name)) l; omega
     by_cases hle:l=[]
     ·subst hle
      (repeat' (first | (refine delBd0 ?_) | (simp only [↓Xx,↓Xy,↓Zbm,↓Xm,↓Xc,↓XI,↓YS,↓XA,↓Yo,↓Ys,↓Zb9,↓YJ,↓YG,↓YH,↓YI,↓YT,↓Wk,↓ZI,↓YV,↓YB,↓YR,↓Wc,↓XQ,↓Zax,↓Wz,↓Yj,↓Xk,↓YX,↓YK,ptrV,Zpp,Zpw,ZpN,ZpK,ZpL,ite_true,ite_false,Zo5,Zo7,ne_eq,not_false_eq_true,true_and,Zpv,decide_true,decide_false,ZJ,Zpf,eq_self,ZpO,Zo9,We,Xw,↓XS,Xt,↓Zaz,Wf,Jo,Wg,XF,Jj,undef,ZpE,ZT,Yg,Yc,en_54,en_53, *]) | (refine ZH fun zr zh=>?_; have zg:=zh; (try simp only [Zpb] at zg)) | (refine Zpe (cloneBd0) ?_)))
      rename_i r2 n2 n2';refine Zfb (op:=5) (nm:=e.name) (kids:=e.kids) (l:=[]) (r2:=r2) (r4:=zr) hN (ih' _ (by simp)) (by simp only [ZI,Zo5,if_true,if_false, *]<;>rfl) (by simp only [ZI,Zo5,if_true,if_false, *]<;>rfl) (by simp only [ZI,Zo5,if_true,if_false, *]<;>rfl) (by simp only [Zpf, *,if_true,if_false]<;>rfl) (Zpc _ _ _) (fun t' r hr h4=>ZbF h4 (Zpc _ _ _) ?_);exact ZpB ((((Zph n2).of_set zg.2).of_set (by simp only [Zpb] at hr; exact hr.2.2)).of_set zg.2) _
     ·have hne:0<l.length:=List.length_pos_iff.2 hle;clear hle
      (repeat' (first | (refine (cloneBd hl hne _).use ?_) | (simp only [↓Xx,↓Xy,↓Zbm,↓Xm,↓Xc,↓XI,↓YS,↓XA,↓Yo,↓Ys,↓YJ,↓YG,↓YH,↓YI,↓YT,↓Wk,↓ZI,↓YV,↓YB,↓YR,↓Wc,↓XQ,↓Zax,↓Wz,↓Yj,↓Xk,↓YX,↓YK,ptrV,Zpp,Zpw,ZpN,ZpK,ZpL,ite_true,ite_false,Zo5,Zo7,ne_eq,not_false_eq_true,true_and,Zpv,decide_true,decide_false,ZJ,Zpf,eq_self,ZpO,Zo9,We,Xw,↓XS,Xt,↓Zaz,Wf,Jo,Wg,XF,Jj,undef,ZpE,ZT,Yg,Yc,en_54,en_53, *]) | (refine ZH fun zr zh=>?_; have zg:=zh; (try simp only [Zpb] at zg))))
      rename_i r2 n2 n2';intro v H1 ho;have hf:∀ H',SubH ((H0.set r2 (.cells 34 [iV 5,sV e.name,encS exE e.kids] 0)).set zr (.cells 34 Zx 0)) H'→∀ b,FnAt Try.prog (.func (.func 55) [] [ptrV r2 0]) [bdV b] (boolV (decide (b.1=e.name))) H':=fun H' hs b=>put1 (hs _ _ (by simp only [Zpf, *,if_true,if_false]<;>rfl))
      refine delBd (p:=fun b=>decide (b.1=e.name)) ho hne hl hf ?_
      (repeat' (first | (simp only [↓ZF,ZG,Zo5,Zo7, *])))
      refine Zfb (op:=5) (nm:=e.name) (kids:=e.kids) (l:=l.filter fun b=>!decide (b.1=e.name)) (r2:=r2) (r4:=zr) hN (ih' _ hlf) (by simp only [ZI,Zo5,if_true,if_false, *]<;>rfl) (by simp only [ZI,Zo5,if_true,if_false, *]<;>rfl) (by simp only [ZI,Zo5,if_true,if_false, *]<;>rfl) (by simp only [Zpf, *,if_true,if_false]<;>rfl) (Zpc _ _ _) (fun t' r hr h4=>ZbF h4 (Zpc _ _ _) ?_);exact ZpB ((((Zph n2).of_set zg.2).of_set (by simp only [Zpb] at hr; exact hr.2.2)).of_set zg.2) _
    ·have hp:e.put l=.mk e.op e.name (e.kids.map (·.put l)):=by rw [e.put_eq,if_neg h1,if_neg h5]
     rw [hp]
     (repeat' (first | (simp only [↓ZF,ZG,ptrV,Zo5,Zo7,ZJ,Zo9,undef,ZT,Yg,Yc, *]) | (refine ZH fun zr zh=>?_; have zg:=zh; (try simp only [Zpb] at zg))))
     rename_i r2 n2 n2';refine Zfb (op:=e.op) (nm:=e.name) (kids:=e.kids) (l:=l) (r2:=r2) (r4:=zr) hN (ih' l hl) (by simp only [ZI,Zo5,if_false, *]<;>rfl) (by simp only [ZI,Zo5,if_true,if_false, *]<;>rfl) (by simp only [ZI,Zo5,if_true,if_false, *]<;>rfl) (by simp only [Zpf, *,if_true,if_false]<;>rfl) (Zpc _ _ _) (fun t' r hr h4=>ZbF h4 (Zpc _ _ _) ?_);exact ZpB ((((Zph n2).of_set zg.2).of_set (by simp only [Zpb] at hr; exact hr.2.2)).of_set zg.2) _
end Go.PV.Ytglpmlbbaedbiaa
end
