/- Part 8 of 11 of what the proof of Steps needs. -/
import Derived.Test.YtglpmlbbaedbiaaGreatSteps7
import Derived.Test.YtglpmlbbaedbiaaGreatSteps5
set_option linter.unusedVariables false
set_option linter.unusedSimpArgs false
set_option linter.defProp false
section
open Go.PV.AH renaming set_none→Zn2,get→Zn8,set_same→Zn4
open Go.PV.GhL renaming cons→Zod
open Go.PV.Hold renaming mk→Zn0
open Go.PV.PureF renaming use→Zn3,forget→Zoj
open Go.PV.SubH renaming refl→Zn1,new→Zn5,of_set→Zn6
open List renaming take_append_drop→ZoU,length_take→ZoF,drop→ZnZ,take_of_length_le→Zos,getElem_mem→Zn9,drop_eq_nil_of_le→Zop
open Nat renaming reduceEqDiff→ZnW,reduceLT→ZnY,reduceLeDiff→Zof
open Option renaming map_none→ZoC,map_some→Zog
set_option maxRecDepth 20000
set_option maxHeartbeats 8000000
namespace Go.PV.YtglpmlbbaedbiaaGreat
open Go Go.Proofs
theorem rtakeStr {l:List ByteArray} {n:ByteArray} {i:Nat} {H:AH} {K:VE→AH→Prop} (hi:i≤l.length) (hl:l.length≤1099511627776) (hK:K (.ret (boolV (hasF (l.take i) n))) H):Yh Tryz.prog 127 [.slice false i (encC strE l),sV n] H K:=by
 have e:encC strE l=encC strE (l.take i) ++ encC strE (l.drop i):=by rw [← Yo,ZoU]
 rw [e];refine YM (Zod (GhV.trunc _ _ _ _ _) (GhL.refl _ _)) ?_;have el:(l.take i).length=i:=by rw [ZoF]; omega
 rw [show VV.slice false i (encC strE (l.take i))=strsV (l.take i) from by rw [strsV,encS,el]];exact (Zip (l.take i) n (by omega)).use hK
structure RClOk (c:Cl):Prop where
 pats:pasSz c.pats≤1099511627776
 names:∀ q∈c.pats,q.nmOk
 body:2 * c.body.sz + 2 * pasSz c.pats≤1099511627776
 bnames:c.body.nmOk
def rcQ (H0:AH) (R:Int):APost:=YW Tryz.prog [.tmp 6] fun e H'=>e=.ret (iV R)∧SubH H0 H'
theorem ZiS {p:Pr} {c:Cl} {vs:List ByteArray} {t:Nat→VV} {H0 B:AH} {r3 r5:Nat} {R:Int} (hpc:p.cons.length≤1099511627776) (hpf:p.funs.length≤1099511627776) (hc:RClOk c) (hvs:vs.length≤pasSz c.pats) (hR:R=if 1000 < c.body.sz then 7 else if 100 < c.body.dp then 6 else c.body.shF p vs.reverse)
 (h3:t 3=ptrV r3 0) (h5:t 5=ptrV r5 0) (h7:t 7=strsV vs) (k3:B r3=some (.cells 25 [cosV p.cons,fusV p.funs] 0)) (k5:B r5=some (.cells 124 (clE c) 0)) (hs:SubH H0 B) :
 ACx ⟨Tryz.prog,89,none⟩ c90_1 (rcQ H0 R) ⟨t,[]⟩ B:=by
 have hb:=hc.body;have hsz:=Zlk c.body (by omega);have hsh:=Znt p hpc hpf (c.body.sz + 1) c.body vs.reverse vs (by omega) (by omega) hc.bnames (fun x=>List.mem_reverse);replace hR:=Zn0 hR;delta c90_1 Zd Zb Zo Zr Za Zh Zc Zm Zf;refine Ya rfl (fun _ _ _ h=>h) ?_
 (repeat' (first | (simp only [↓ZI,ZJ,ZV,ptrV,ZnW,ZnY,reduceCtorEq,ZnZ,ZcU,Yp,YI,en_128,en_129, *]) | (refine ZY ?_ ?_<;>intro) | (refine ZP ?_) | (refine Zn3 (hsz) ?_) | (refine Zn3 (hsh) ?_)))
 all_goals first
  | exact hs
  | (have h:1000 < (c.body.sz:Int):=by assumption
     rw [hR.out,if_pos (by omega)])
  | (have h:¬ 1000 < (c.body.sz:Int):=by assumption
     have h':100 < (c.body.dp:Int):=by assumption
     rw [hR.out,if_neg (by omega),if_pos (by omega)])
  | (have h:¬ 1000 < (c.body.sz:Int):=by assumption
     have h':¬ 100 < (c.body.dp:Int):=by assumption
     rw [hR.out,if_neg (by omega),if_neg (by omega)])
theorem Zj1 {p:Pr} {c:Cl} {vs:List ByteArray} {t:Nat→VV} {H0 B:AH} {r3 r5:Nat} {R:Int} (hpc:p.cons.length≤1099511627776) (hpf:p.funs.length≤1099511627776) (hc:RClOk c) (hvs:vs.length≤pasSz c.pats)
 (hR:R=open Classical in if vs.Nodup then (if 1000 < c.body.sz then 7 else if 100 < c.body.dp then 6 else c.body.shF p vs.reverse) else 10)
 (h3:t 3=ptrV r3 0) (h5:t 5=ptrV r5 0) (h7:t 7=strsV vs) (k3:B r3=some (.cells 25 [cosV p.cons,fusV p.funs] 0)) (k5:B r5=some (.cells 124 (clE c) 0)) (hs:SubH H0 B) :
 ACx ⟨Tryz.prog,89,none⟩ c90_2 (rcQ H0 R) ⟨t,[]⟩ B:=by
 have hvl:vs.length≤1099511627776:=by have:=hc.pats; omega
 have hct:=fun (t:Nat→VV) (h:R=if 1000 < c.body.sz then 7 else if 100 < c.body.dp then 6 else c.body.shF p vs.reverse)=>ZiS (p:=p) (c:=c) (t:=t) (B:=B) (R:=R) (H0:=H0) (r3:=r3) (r5:=r5) hpc hpf hc hvs h
 delta c90_2 Zf;refine Ya rfl (fun _ _ _ h=>h) ?_;replace hR:=Zn0 hR
 (repeat' (first | (simp only [↓ZI,ZJ,ZnY, *])))
 refine ZW (fun _ _ _ h=>h) (fun A H'=>H'=B∧A.d=[]∧A.t 3=ptrV r3 0∧A.t 5=ptrV r5 0∧A.t 7=strsV vs∧∃ i:Nat,i≤vs.length∧A.t 12=iV i∧(vs.take i).Nodup)
  (fun A _=>match A.t 12 with | .lit (.int _ i)=>((vs.length:Int) - i).toNat | _=>0) ?_ ?_
 ·exact ⟨rfl,rfl,(by simp only [ZL,ZnW,if_false, *]<;>rfl),(by simp only [ZL,ZnW,if_false, *]<;>rfl),(by simp only [ZL,ZnW,if_false, *]<;>rfl),0,by omega,(by simp only [ZL,if_true, *]<;>rfl),.nil⟩
 ·clear h3 h5 h7;rintro ⟨t,d⟩ H' ⟨rfl,rfl,h3,h5,h7,i,hi,h12,hnd⟩;dsimp only at h3 h5 h7 h12;delta b90_2 Za Ze Zn Zr Zq Zk Zb Zo Zf Zm Zc;by_cases hlt:i < vs.length
  ·have hil:(i:Int) < (vs.length:Int):=by omega
   have hdi:=Zar hlt;have hsn:=JT (l:=vs.take i) (s:=vs[i]);rw [← YL hlt] at hsn;replace hsn:=Zn0 hsn;replace hnd:=Zn0 hnd;clear hct
   (repeat' (first | (simp only [↓ZI,ZJ,ptrV,intV,boolV,ZnW,ZnY,reduceCtorEq,YB,ZoC,Zog,YV,idxV,idxOk,Nat.sub_zero,Ye,YH,ZeB, *]) | (refine Ym ?_ ?_<;>intro) | (refine ZP ?_) | (refine ZS mixed (fun _ _ _ _ e h=>⟨e.trans h.1,h.2⟩) _ (Zn1 _) ?_) | (refine rtakeStr (by omega) hvl ?_) | (with_reducible refine And.intro ?_ ?_)))
   all_goals try rw [ZR (n:=(i:Int) + 1) (by omega) (by omega)]
   all_goals first
    | omega
    | exact fun h=>trivial
    | exact hs
    | (have h2:hasF (vs.take i) vs[i]=true:=by assumption
       rw [hR.out,if_neg];intro h3;exact (hsn.out.1 (Zb6 h3 _)).2 (WI.1 h2))
    | (have h2:hasF (vs.take i) vs[i]=false:=by assumption
       refine ⟨i + 1,by omega,rfl,hsn.out.2 ⟨hnd.out,fun h3=>?_⟩⟩;rw [WI.2 h3] at h2;cases h2)
  ·have hil:¬ (i:Int) < (vs.length:Int):=by omega
   rw [Zos (by omega)] at hnd;have e:=hR.out;rw [if_pos hnd] at e;clear hR;replace e:=Zn0 e
   (repeat' (first | (simp only [↓ZI,ZJ,ptrV,intV,ZnW,ZnY,reduceCtorEq,YH, *])))
   exact hct _ e.out (by simp only [ZL,ZnW,if_false]; exact h3) (by simp only [ZL,ZnW,if_false]; exact h5) (by simp only [ZL,ZnW,if_false]; exact h7) k3 k5 hs
theorem Zj2 {p:Pr} {f:Fu} {c:Cl} (hpc:p.cons.length≤1099511627776) (hpf:p.funs.length≤1099511627776) (hc:RClOk c):PureF Tryz.prog 90 [prV p,fuV f,clV c] (iV (clErr p f c)):=by
 have hpl:=YZ c.pats;have hps:=hc.pats;have hN:c.pats.length≤1099511627776:=by omega
 have hpm:∀ i (h:i < c.pats.length),c.pats[i].sz≤1099511627776:=fun i h=>by have:=YP (Zn9 h); omega
 have hp1:∀ i (h:i < c.pats.length),PureF Tryz.prog 124 [paV c.pats[i]] (.tuple [iV c.pats[i].sz,iV c.pats[i].dp]):=fun i h=>psize_ok _ (hpm i h)
 have hp2:∀ i (h:i < c.pats.length),PureF Tryz.prog 125 [cosV p.cons,paV c.pats[i]] (iV (c.pats[i].psF p.cons)):=fun i h=>Zns p.cons hpc _ (hpm i h) (hc.names _ (Zn9 h))
 have hp3:∀ i (h:i < c.pats.length) (v:VV) (H0 H:AH),OutE H0 H 9 1 v (ZT (c.pats.take i)).length (encC strE (ZT (c.pats.take i)))→Yh Tryz.prog 126 [paV c.pats[i],v] H (vrQ H0 (ZT (c.pats.take (i + 1)))):=fun i h v H0 H ho=>by
  rw [WC h];have h1:=Xm (c.pats.take i);have h2:=Jq c.pats (i + 1);rw [Zc4 h] at h2;exact rvars_ok (c.pats[i].sz + 1) c.pats[i] _ v H0 H (by omega) (by omega) ho
 have hvl:(ZT c.pats).length≤pasSz c.pats:=Xm _;clear hpl hps hpm;refine Zoj fun H0=>?_
 refine ZN fd90 (by simp) ?_;delta c90 Zj Zf Zd Zb Ze Zn Zr Zq Zc;obtain ⟨R,hR⟩:∃ R,R=clErr p f c:=⟨_,rfl⟩
 rw [← hR];unfold clErr at hR;by_cases hfa:(c.pats.length:Int)=f.arity
 ·rw [if_pos hfa] at hR;replace hfa:=hfa.symm;have hct:=fun (t:Nat→VV) (B:AH) (r3 r5:Nat) (h:R=open Classical in if (ZT c.pats).Nodup then (if 1000 < c.body.sz then 7 else if 100 < c.body.dp then 6 else c.body.shF p (ZT c.pats).reverse) else 10)=>Zj1 (p:=p) (c:=c) (vs:=ZT c.pats) (t:=t) (B:=B) (R:=R) (H0:=H0) (r3:=r3) (r5:=r5) hpc hpf hc hvl h
  obtain ⟨R2,hR2⟩:∃ R2,R2=(open Classical in if (YF c.pats).Nodup then Za4 p c else 10):=⟨_,rfl⟩
  rw [← hR2] at hR;replace hR:=Zn0 hR;replace hR2:=Zn0 hR2;replace hc:=Zn0 hc
  (repeat' (first | (simp only [↓ZI,ZJ,ptrV,intV,ZnW,ZnY,Zof,reduceCtorEq,ZM,fillV,ZnZ,undef,ZQ,ZQ,XD,WG,YS,Yc,YG,YH,Xr, *]) | (refine ZK fun zr zh=>?_; have zg:=zh; (try simp only [Zn2] at zg))))
  rename_i r3 n3 n3' r4 n4 n4'
  refine Jz (fun t H=>SubH H0 H∧H r3=some (.cells 25 [cosV p.cons,fusV p.funs] 0)∧H zr=some (.cells 124 (clE c) 0)∧t 3=ptrV r3 0∧t 5=ptrV zr 0∧t 7=.slice true 0 []∧t 8=iV 0)
   ⟨((Zn5 n3).of_set n4'.2).of_set zg.2.2,(by simp only [Zn8, *,if_true,if_false]<;>rfl),Zn4 _ _ _,(by simp only [ZL,ZnW,if_true,if_false, *]<;>rfl),(by simp only [ZL,ZnW,if_true,if_false, *]<;>rfl),(by simp only [ZL,ZnW,if_true,if_false, *]<;>rfl),(by simp only [ZL,ZnW,if_true,if_false, *]<;>rfl)⟩ ?_
  clear n3 n3' n4 n4' zh zg hfa;rintro t B ⟨hs,k3,k5,h3,h5,h7,h8⟩
  refine ZW (fun _ _ _ h=>h) (fun A H'=>A.d=[]∧A.t 3=ptrV r3 0∧A.t 5=ptrV zr 0∧∃ i:Nat,i≤c.pats.length∧A.t 8=iV i∧OutE B H' 9 1 (A.t 7) (ZT (c.pats.take i)).length (encC strE (ZT (c.pats.take i)))∧R=Za3 R2 p.cons (c.pats.drop i)∧∀ q∈c.pats.take i,paChk p.cons q=0)
   (fun A _=>match A.t 8 with | .lit (.int _ i)=>((c.pats.length:Int) - i).toNat | _=>0) ?_ ?_
  ·exact ⟨rfl,h3,h5,0,by omega,h8,by show OutE B B _ _ (t 7) _ _; rw [h7]; exact OutE.start (Zn1 _),hR.out,by simp⟩
  ·clear hR h3 h5 h7 h8;rintro ⟨t,d⟩ H' ⟨rfl,h3,h5,i,hi,h8,ho,hR,hall⟩;dsimp only at h3 h5 h8 ho;have q3:=ho.sub _ _ k3;have q5:=ho.sub _ _ k5;have hsb:=hs.trans ho.sub;have hvc:=ho.cells.1;delta b90_1 Za Zd Zb Ze Zn Zr Zk Zo Zh Zc Zm Zf;by_cases hlt:i < c.pats.length
   ·have hil:(i:Int) < (c.pats.length:Int):=by omega
    have hdi:=XQ hlt;have h1:=hp1 i hlt;have h2:=hp2 i hlt;have h3':=fun K hK=>ZmR (K:=K) (hp3 i hlt (t 7) B H' ho) hK
    rw [Zeq hlt,ZkK] at hR;have hsn:=YL hlt;have hpe:=ZkK p.cons c.pats[i];replace hpe:=Zn0 hpe;replace hsn:=Zn0 hsn;replace hR:=Zn0 hR;replace ho:=Zn0 ho;replace hall:=Zn0 hall;clear hct hp1 hp2 hp3
    (repeat' (first | (simp only [↓ZI,ZJ,ZV,ptrV,intV,ZnW,ZnY,reduceCtorEq,ZnZ,XD,Wr,YS,Jc,Zav,YG,en_124,en_125,en_126, *]) | (refine ZY ?_ ?_<;>intro) | (refine Ym ?_ ?_<;>intro) | (refine ZP ?_) | (refine ZS mixed (fun _ _ _ _ e h=>⟨e.trans h.1,h.2⟩) _ (Zn1 _) ?_) | (refine Zn3 (h1) ?_) | (refine Zn3 (h2) ?_) | (refine h3' _ (fun v2 H2 ho2=>?_)) | (with_reducible refine And.intro ?_ ?_)))
    all_goals try rw [ZR (n:=(i:Int) + 1) (by omega) (by omega)]
    all_goals first
     | omega
     | exact hsb
     | (have q1:100 < (c.pats[i].sz:Int):=by assumption
        rw [hR.out,if_pos (show 100 < c.pats[i].sz by omega),if_neg (by decide)])
     | (have q1:¬ 100 < (c.pats[i].sz:Int):=by assumption
        have q2:50 < (c.pats[i].dp:Int):=by assumption
        rw [hR.out,if_neg (show ¬ 100 < c.pats[i].sz by omega),if_pos (show 50 < c.pats[i].dp by omega),if_neg (by decide)])
     | (have q1:¬ 100 < (c.pats[i].sz:Int):=by assumption
        have q2:¬ 50 < (c.pats[i].dp:Int):=by assumption
        have q3:(!decide (Pa.psF p.cons c.pats[i]=0))=true:=by assumption
        rw [hR.out,if_neg (show ¬ 100 < c.pats[i].sz by omega),if_neg (show ¬ 50 < c.pats[i].dp by omega),if_neg (by simpa using q3)])
     | (have q1:¬ 100 < (c.pats[i].sz:Int):=by assumption
        have q2:¬ 50 < (c.pats[i].dp:Int):=by assumption
        have q3:(!decide (Pa.psF p.cons c.pats[i]=0))=false:=by assumption
        have q4:Pa.psF p.cons c.pats[i]=0:=by simpa using q3
        have e:=hpe.out;rw [if_neg (show ¬ 100 < c.pats[i].sz by omega),if_neg (show ¬ 50 < c.pats[i].dp by omega),q4] at e;refine ⟨i + 1,by omega,rfl,ho2,?_,fun q hq=>?_⟩
        ·rw [hR.out,if_neg (show ¬ 100 < c.pats[i].sz by omega),if_neg (show ¬ 50 < c.pats[i].dp by omega),if_pos q4]
        ·rw [hsn.out] at hq;rcases List.mem_append.1 hq with hq | hq
         ·exact hall.out q hq
         ·simp at hq; subst hq; exact e)
     | trace_state
   ·have hil:¬ (i:Int) < (c.pats.length:Int):=by omega
    rw [Zop (by omega)] at hR;rw [Zos (by omega)] at ho hall;have hvn:=ZbV hall;have e:=(show R=R2 from hR).trans hR2.out;unfold Za4 at e;rw [hvn] at e;replace e:=Zn0 e;replace ho:=Zn0 ho;clear hR hR2 hvn
    (repeat' (first | (simp only [↓ZI,ZJ,ptrV,intV,ZnW,ZnY,reduceCtorEq,ZnZ,XD,YS,YG, *])))
    refine XI (OutE.ghost (i:=7) (e:=9) (k:=1) (n:=(ZT c.pats).length) (cs:=encC strE (ZT c.pats)) (by simp only [ZL,ZnW,if_false]; exact ho.out) _) ?_;exact hct _ _ _ _ e.out (by simp only [ZL,ZnW,if_false, *]<;>rfl) (by simp only [ZL,ZnW,if_false, *]<;>rfl) (by simp only [ZL,ZnW,if_true,if_false, *]<;>rfl) k3 k5 hs
 ·rw [if_neg hfa] at hR;replace hR:=Zn0 hR
  (repeat' (first | (simp only [↓ZI,ZJ,ptrV,intV,ZnW,ZnY,reduceCtorEq,ZM,ZnZ,undef,XD,WG,YS,Yc,YG, *]) | (refine ZP ?_) | (refine ZK fun zr zh=>?_; have zg:=zh; (try simp only [Zn2] at zg)) | (exact Zn1 _) | (refine Zn6 ?_ ?_) | (with_reducible refine And.intro ?_ ?_)))
  all_goals first
   | rw [hR.out]
   | (rename_i r3 n3 n3' r4 n4 n4'; exact ((Zn5 n3).of_set n4'.2).of_set zg.2.2)
end Go.PV.YtglpmlbbaedbiaaGreat
end
section
open Go.PV.AH renaming set_none→Zn2,set_same→Zn4,ne_of→ZnX
open Go.PV.GhL renaming cons→Zod
open Go.PV.Hold renaming mk→Zn0
open Go.PV.PureF renaming use→Zn3,forget→Zoj
open Go.PV.SubH renaming refl→Zn1,of_set→Zn6,new→Zn5
open List renaming take_append_drop→ZoU,length_take→ZoF,getElem_mem→Zn9,drop→ZnZ,drop_eq_nil_of_le→Zop
open Nat renaming reduceLT→ZnY,reduceEqDiff→ZnW,reduceAdd→Zn7,reduceMul→Zor
open Option renaming map_none→ZoC,map_some→Zog
set_option maxRecDepth 20000
set_option maxHeartbeats 8000000
namespace Go.PV.YtglpmlbbaedbiaaGreat
open Go Go.Proofs
theorem rtakeFu {l:List Fu} {n:ByteArray} {i:Nat} {H:AH} {K:VE→AH→Prop} (hi:i≤l.length) (hl:l.length≤1099511627776) (hK:K (.ret (iV (atFu (l.take i) n))) H):Yh Tryz.prog 89 [.slice false i (encC fuE l),sV n] H K:=by
 have e:encC fuE l=encC fuE (l.take i) ++ encC fuE (l.drop i):=by rw [← Yo,ZoU]
 rw [e];refine YM (Zod (GhV.trunc _ _ _ _ _) (GhL.refl _ _)) ?_;have el:(l.take i).length=i:=by rw [ZoF]; omega
 rw [show VV.slice false i (encC fuE (l.take i))=fusV (l.take i) from by rw [fusV,encS,el]];exact (Zio (l.take i) n (by omega)).use hK
structure RPrOk (p:Pr):Prop where
 cons:p.cons.length≤1099511627776
 funs:p.funs.length≤1099511627776
 cnames:∀ c∈p.cons,c.name.size≤1099511627776
 fnames:∀ f∈p.funs,f.name.size≤1099511627776
 cls:∀ f∈p.funs,f.cls.length≤1099511627776∧∀ c∈f.cls,RClOk c
theorem Zj3 {p:Pr} {t:Nat→VV} {H0 B:AH} {r1:Nat} {R:Int} (hp:RPrOk p) (hR:R=Xw p p.funs)
 (h1:t 1=ptrV r1 0) (k1:B r1=some (.cells 25 [cosV p.cons,fusV p.funs] 0)) (hs:SubH H0 B) :
 ACx ⟨Tryz.prog,110,none⟩ c54_3 (ckQ H0 R) ⟨t,[]⟩ B:=by
 have hcl:∀ i (h:i < p.funs.length) k (h':k < p.funs[i].cls.length),PureF Tryz.prog 90 [prV p,fuV p.funs[i],clV p.funs[i].cls[k]] (iV (clErr p p.funs[i] p.funs[i].cls[k])):=fun i h k h' =>
  Zj2 hp.cons hp.funs ((hp.cls _ (Zn9 h)).2 _ (Zn9 h'))
 have hcN:∀ i (h:i < p.funs.length),p.funs[i].cls.length≤1099511627776:=fun i h=>(hp.cls _ (Zn9 h)).1
 have hN:=hp.funs;clear hp;delta c54_3 Zf;refine Ya rfl (fun _ _ _ h=>h) ?_;replace hR:=Zn0 hR
 (repeat' (first | (simp only [↓ZI,ZJ,ZnY, *])))
 refine ZW (fun _ _ _ h=>h) (fun A H'=>H'=B∧A.d=[]∧A.t 1=ptrV r1 0∧∃ i:Nat,i≤p.funs.length∧A.t 6=iV i∧R=Xw p (p.funs.drop i))
  (fun A _=>match A.t 6 with | .lit (.int _ i)=>((p.funs.length:Int) - i).toNat | _=>0) ?_ ?_
 ·exact ⟨rfl,rfl,(by simp only [ZL,ZnW,if_false, *]<;>rfl),0,by omega,(by simp only [ZL,if_true, *]<;>rfl),hR.out⟩
 ·clear hR h1;rintro ⟨t,d⟩ H' ⟨rfl,rfl,h1,i,hi,h6,hR⟩;dsimp only at h1 h6;delta b54_3 Za Zd Zb Ze Zn Zr Zf;by_cases hlt:i < p.funs.length
  ·have hil:(i:Int) < (p.funs.length:Int):=by omega
   have hdi:=WE hlt;rw [Zdx hlt] at hR;replace hR:=Zn0 hR;have hcli:=hcl i hlt;have hcNi:=hcN i hlt;clear hcl hcN
   (repeat' (first | (simp only [↓ZI,ZJ,ptrV,intV,ZnW,ZnY,reduceCtorEq,ZnZ,Xj,Wz,Wd, *])))
   refine ZW (fun _ _ _ h=>h) (fun A H2=>H2=H'∧A.d=[]∧A.t 1=ptrV r1 0∧A.t 6=iV i∧∃ k:Nat,k≤p.funs[i].cls.length∧A.t 7=iV k∧R=Zas (Xw p (p.funs.drop (i + 1))) p p.funs[i] (p.funs[i].cls.drop k))
    (fun A _=>match A.t 7 with | .lit (.int _ k)=>((p.funs[i].cls.length:Int) - k).toNat | _=>0) ?_ ?_
   ·exact ⟨rfl,rfl,(by simp only [ZL,ZnW,if_false, *]<;>rfl),(by simp only [ZL,ZnW,if_false, *]<;>rfl),0,by omega,(by simp only [ZL,ZnW,if_true,if_false, *]<;>rfl),hR.out⟩
   ·clear hR h1 h6;rintro ⟨t,d⟩ H2 ⟨rfl,rfl,h1,h6,k,hk,h7,hR⟩;dsimp only at h1 h6 h7;delta b54_2 Za Zd Zb Zk Ze Zn Zr Zo Zc Zm;by_cases hkt:k < p.funs[i].cls.length
    ·have hkl:(k:Int) < (p.funs[i].cls.length:Int):=by omega
     have hdk:=ZaY hkt;have hck:=hcli k hkt;rw [Zer hkt] at hR;replace hR:=Zn0 hR;clear hcli
     (repeat' (first | (simp only [↓ZI,ZJ,ptrV,intV,ZnW,ZnY,reduceCtorEq,ZnZ,Xj,Xz,Wz,ZbC,Jb,YI,Zi5,Wd,WK,en_90, *]) | (refine Ym ?_ ?_<;>intro) | (refine ZP ?_) | (refine ZS mixed (fun _ _ _ _ e h=>⟨e.trans h.1,h.2⟩) _ (Zn1 _) ?_) | (refine Zn3 (hck) ?_) | (with_reducible refine And.intro ?_ ?_)))
     all_goals try rw [ZR (n:=(k:Int) + 1) (by omega) (by omega)]
     all_goals first
      | omega
      | exact hs
      | (have hne:(!decide (clErr p p.funs[i] p.funs[i].cls[k]=0))=true:=by assumption
         rw [hR.out,if_neg (by simpa using hne)])
      | (have hne:(!decide (clErr p p.funs[i] p.funs[i].cls[k]=0))=false:=by assumption
         exact ⟨k + 1,by omega,rfl,by rw [hR.out,if_pos (by simpa using hne)]⟩)
      | trace_state
    ·have hkl:¬ (k:Int) < (p.funs[i].cls.length:Int):=by omega
     rw [Zop (show p.funs[i].cls.length≤k by omega)] at hR;have e:=Zn0 (show R=Xw p (p.funs.drop (i + 1)) from hR);clear hR
     (repeat' (first | (simp only [↓ZI,ZJ,ptrV,intV,ZnW,ZnY,reduceCtorEq,ZnZ,Xj,Xz,Wz,Jb,Wd,WK, *]) | (refine Ya rfl (fun _ _ _ h=>h) ?_)))
     delta c54_1 Za Zm Zc
     (repeat' (first | (simp only [↓ZI,ZJ,ptrV,ZnW,ZnY, *]) | (with_reducible refine And.intro ?_ ?_)))
     all_goals try rw [ZR (n:=(i:Int) + 1) (by omega) (by omega)]
     all_goals first
      | omega
      | exact ⟨i + 1,by omega,rfl,e.out⟩
      | trace_state
  ·have hil:¬ (i:Int) < (p.funs.length:Int):=by omega
   rw [Zop (by omega)] at hR;have e:=Zn0 (show R=0 from hR);clear hR
   (repeat' (first | (simp only [↓ZI,ZJ,ptrV,intV,ZnW,ZnY,reduceCtorEq,ZnZ,Xj,Wz,Wd, *]) | (refine Ya rfl (fun _ _ _ h=>h) ?_)))
   delta c54_2 Zf
   (repeat' (first | (simp only [↓ZI,ZJ,ZnW,ZnY, *]) | (refine ZP ?_)))
   all_goals first
    | rw [e.out]
    | exact hs
theorem Zll {p:Pr} (hp:RPrOk p):PureF Tryz.prog 54 [prV p] (iV (Ji p)):=by
 have hcc:=rCons_ok p.cons hp.cons hp.cnames;have hnm:∀ i (h:i < p.funs.length),PureF Tryz.prog 87 [sV p.funs[i].name] (boolV (nameB p.funs[i].name)):=fun i h=>ZeV _ (hp.fnames _ (Zn9 h))
 have hco:=fun n=>Zc6 p.cons n hp.cons
 have hN:=hp.funs;refine Zoj fun H0=>?_
 refine ZN fd54 (by simp) ?_;delta c54 Zj Zf Zd Zb Ze Zm Zr Zo Zc Za;obtain ⟨R,hR⟩:∃ R,R=Ji p:=⟨_,rfl⟩
 rw [← hR];unfold Ji at hR;by_cases h100:100 < p.funs.length
 ·rw [if_pos h100] at hR;have hl:(100:Int) < (p.funs.length:Int):=by omega
  replace hR:=Zn0 hR;clear hcc hnm hco
  (repeat' (first | (simp only [↓ZI,ZJ,ptrV,intV,ZnW,ZnY,reduceCtorEq,ZM,ZnZ,undef,Xj,Wz,Wd, *]) | (refine ZP ?_) | (refine ZK fun zr zh=>?_; have zg:=zh; (try simp only [Zn2] at zg)) | (exact Zn1 _) | (refine Zn6 ?_ ?_) | (with_reducible refine And.intro ?_ ?_)))
  all_goals first
   | rw [hR.out]
   | exact Zn5 zh
 ·rw [if_neg h100] at hR;have hl:¬ (100:Int) < (p.funs.length:Int):=by omega
  by_cases hcz:Jy p.cons=0
  ·rw [if_pos hcz] at hR;rw [hcz] at hcc;have hct:=fun (t:Nat→VV) (B:AH) (r1:Nat) h=>Zj3 (p:=p) (t:=t) (B:=B) (R:=R) (H0:=H0) (r1:=r1) hp h
   replace hp:=Zn0 hp;obtain ⟨R2,hR2⟩:∃ R2,R2=Xw p p.funs:=⟨_,rfl⟩
   rw [← hR2] at hR;replace hR:=Zn0 hR;replace hR2:=Zn0 hR2;clear hcz
   (repeat' (first | (simp only [↓ZI,ZJ,ptrV,intV,ZnW,ZnY,reduceCtorEq,ZM,ZnZ,undef,Xj,Wr,Wz,Zav,Wd,en_86, *]) | (refine ZK fun zr zh=>?_; have zg:=zh; (try simp only [Zn2] at zg)) | (refine Zn3 (hcc) ?_)))
   refine Jz (fun t H=>SubH H0 H∧H zr=some (.cells 25 [cosV p.cons,fusV p.funs] 0)∧t 1=ptrV zr 0∧t 4=iV 0)
    ⟨Zn5 zh,Zn4 _ _ _,(by simp only [ZL,ZnW,if_true,if_false, *]<;>rfl),(by simp only [ZL,ZnW,if_true,if_false, *]<;>rfl)⟩ ?_
   clear zh zg hcc;rintro t B ⟨hs,k1,h1,h4⟩
   refine ZW (fun _ _ _ h=>h) (fun A H'=>SubH B H'∧A.d=[]∧A.t 1=ptrV zr 0∧∃ i:Nat,i≤p.funs.length∧A.t 4=iV i∧R=WY R2 p (p.funs.drop i) i)
    (fun A _=>match A.t 4 with | .lit (.int _ i)=>((p.funs.length:Int) - i).toNat | _=>0) ?_ ?_
   ·exact ⟨Zn1 _,rfl,h1,0,by omega,h4,hR.out⟩
   ·clear hR h1 h4;rintro ⟨t,d⟩ H' ⟨hb,rfl,h1,i,hi,h4,hR⟩;dsimp only at h1 h4;have q1:=hb _ _ k1;delta b54_1 Za Zd Zb Ze Zn Zr Zk Zi Zg Zo Zq Zc Zf Zm Zp;by_cases hlt:i < p.funs.length
    ·have hil:(i:Int) < (p.funs.length:Int):=by omega
     have hdi:=WE hlt;have hni:=hnm i hlt;have hci:=hco p.funs[i].name;rw [Zcx hlt] at hR;replace hR:=Zn0 hR;clear hct k1 hnm hco
     (repeat' (first | (simp only [↓ZI,ZJ,ptrV,intV,boolV,ZnW,ZnY,Zn7,Zor,reduceCtorEq,ZU,ZM,setAt,ZnZ,↓Zgr,↓Zgt,undef,YB,ZoC,Zog,YV,idxV,idxOk,Nat.sub_zero,Xj,ZeL,Wr,WG,Xz,Wz,ZbC,Ye,Zav,Yc,Jb,Zf0,ZbD,Wd,WK,JL,Zcj,ZeO, *]) | (refine YU ?_ ?_<;>intro) | (refine Zcu ?_ ?_<;>intro) | (refine ZY ?_ ?_<;>intro) | (refine Ym ?_ ?_<;>intro) | (refine ZP ?_) | (refine ZS mixed (fun _ _ _ _ e h=>⟨e.trans h.1,h.2⟩) _ (Zn1 _) ?_) | (refine ZK fun zr zh=>?_; have zg:=zh; (try simp only [Zn2] at zg); (try have zn_q1:=ZnX q1 zh); (try have zn_q1:=ZnX q1 zg.2); (try have zn_q1:=ZnX q1 zg.2.2)) | (exact Zn1 _) | (refine Zn6 ?_ ?_) | (exact SubH.none (by assumption) (by assumption)) | (refine Zn3 (hni) ?_) | (refine Zn3 (hci) ?_) | (refine rtakeFu (by omega) (by omega) ?_) | (with_reducible refine And.intro ?_ ?_)))
     all_goals try rw [ZR (n:=(i:Int) + 1) (by omega) (by omega)]
     all_goals first
      | exact hs.trans hb
      | exact hb.of_set (hb.none zh)
      | exact hs.none (hb.none zh)
      | exact fun h=>trivial
      | omega
      | (refine congrArg (fun z:Int=>VE.ret (iV z)) ?_
         rw [hR.out]; unfold Zbi; repeat' split
         all_goals first
          | rfl
          | omega
          | simp_all
          | (exfalso; simp_all; omega))
      | (refine ⟨i + 1,by omega,rfl,?_⟩
         rw [hR.out]; unfold Zbi; repeat' split
         all_goals first
          | rfl
          | omega
          | simp_all
          | (exfalso; simp_all; omega))
      | trace_state
    ·have hil:¬ (i:Int) < (p.funs.length:Int):=by omega
     rw [Zop (by omega)] at hR;have e:=Zn0 (show R=_ from (show R=R2 from hR).trans hR2.out);clear hR hR2
     (repeat' (first | (simp only [↓ZI,ZJ,ptrV,intV,ZnW,ZnY,reduceCtorEq,ZnZ,Xj,Wz,Wd, *])))
     exact hct _ _ _ e.out (by simp only [ZL,ZnW,if_false]; exact h1) q1 (hs.trans hb)
  ·rw [if_neg hcz] at hR;replace hR:=Zn0 hR;clear hnm hco
   (repeat' (first | (simp only [↓ZI,ZJ,ptrV,intV,ZnW,ZnY,reduceCtorEq,ZM,ZnZ,undef,Xj,Wr,Wz,Zav,Wd,en_86, *]) | (refine ZP ?_) | (refine ZK fun zr zh=>?_; have zg:=zh; (try simp only [Zn2] at zg)) | (exact Zn1 _) | (refine Zn6 ?_ ?_) | (refine Zn3 (hcc) ?_) | (with_reducible refine And.intro ?_ ?_)))
   all_goals first
    | rw [hR.out]
    | exact Zn5 zh
end Go.PV.YtglpmlbbaedbiaaGreat
end
section
namespace Go.PV
open Go
theorem least {p:Nat→Prop} {n:Nat} (h:p n):∃ m,p m∧∀ k,k < m→¬ p k:=by
 induction n using Nat.strongRecOn with
 | _ n ih =>
   by_cases hk:∃ k,k < n∧p k
   ·obtain ⟨k,h1,h2⟩:=hk; exact ih k h1 h2
   ·exact ⟨n,h,fun k hk' hp=>hk ⟨k,hk',hp⟩⟩
theorem Znu {cx:Cx} {Q:APost} {A:AF} {H:AH} {a:ACode} (hQ:Zau Q) (I:Nat→AF→AH→Prop) {n0:Nat} (h0:I n0 A H)
 (round:∀ n A H,I n A H→∀ R:AF→AH→Prop,(∀ m A' H',m < n→I m A' H'→R A' H')→vc cx a (thenA R Q) A H):ACx cx (.loop a) Q A H:=by
 classical
 have hm:∀ A H,∃ m,(∃ n,I n A H)→I m A H∧∀ k,k < m→¬ I k A H:=fun A H=>by
  by_cases h:∃ n,I n A H
  ·obtain ⟨n,hn⟩:=h;obtain ⟨m,h1,h2⟩:=least (p:=fun n=>I n A H) hn;exact ⟨m,fun _=>⟨h1,h2⟩⟩
  ·exact ⟨0,fun h'=>absurd h' h⟩
 refine ZW hQ (fun A H=>∃ n,I n A H) (fun A H=>Classical.choose (hm A H)) ⟨n0,h0⟩ fun A H hI=>?_
 have hc:=Classical.choose_spec (hm A H) hI;refine round _ A H hc.1 _ fun m A' H' hlt hI'=>⟨⟨m,hI'⟩,?_⟩
 have hc':=Classical.choose_spec (hm A' H') ⟨m,hI'⟩;refine Nat.lt_of_le_of_lt (Nat.le_of_not_lt fun hk=>hc'.2 m hk hI') hlt
end Go.PV
end
section
open Go.PV.AH renaming set_none→Zn2,set_same→Zn4,get→Zn8,set_ne→Zoa
open Go.PV.Hold renaming mk→Zn0
open Go.PV.PureF renaming forget→Zoj,use→Zn3
open Go.PV.SubH renaming refl→Zn1,new→Zn5
open Int renaming reduceLE→Zok,toNat_zero→ZoI,reduceLT→Zom
open List renaming take_append_drop→ZoU,length_append→Zow,take_of_length_le→Zos,drop_zero→ZoB,drop→ZnZ
open Nat renaming reduceEqDiff→ZnW,reduceLT→ZnY,reduceMul→Zor,reduceAdd→Zn7,reduceLeDiff→Zof,zero_mul→ZoK
open Option renaming map_none→ZoC,map_some→Zog,bind_some→Zol
set_option maxRecDepth 20000
set_option maxHeartbeats 4000000
namespace Go.PV.YtglpmlbbaedbiaaGreat
open Go Go.Proofs
theorem grow_ok (n:Nat) (hn:n≤1099511627776) {H:AH} {K:VE→AH→Prop} (hK:∀ v H',OwnX H H' 35 3 v 0 []→K (.ret v) H'):Yh Tryz.prog 132 [.lit (.slice none 0 0),iV n] H K:=by
 refine ZN fd132 (by simp) ?_;delta c132 Zq Za Zm Zr Ze Zn Zc;replace hK:=Zn0 hK;have w0:IntKind.i64.wrap ((0:Int) - 0)=0:=ZR (by omega) (by omega);have w1:IntKind.i64.wrap ((n:Int) - 0)=(n:Int):=by rw [ZR (by omega) (by omega)]; omega
 have z0:((0:Nat):Int)=0:=rfl;by_cases h0:0 < n
 ·have h0':(0:Int) < (n:Int):=by omega
  have hn0:¬ (n:Int) < 0:=by omega
  have hn63:n * 48≤140737488355328:=by omega
  (repeat' (first | (simp only [↓ZI,ZJ,↓s_cap,s_capL,intV,ZnW,ZnY,Nat.zero_ne_one,reduceCtorEq,ZM,undef,Zok,ZoI,YB,ZoC,Zog,YV,idxV,idxOk,Yn, *]) | (with_reducible refine And.intro ?_ ?_)))
  ·exact fun h=>trivial
  ·refine ⟨35,3,48,_,.i64,.i64,n,Yn,Ys,rfl,by omega,by kernel_rfl,rfl,rfl,h0,hn63,by omega,fun g c hg h1 h2=>?_⟩;have hz:¬ ((c:Int) < 0):=by omega
   (repeat' (first | (simp only [↓ZI,ZJ,intV,ZnW,ZnY,Zor,Nat.reduceSub,Nat.zero_ne_one,reduceCtorEq,Zok,ZoI,YB,ZoC,Zog,YV,idxV,idxOk,Yn, *]) | (refine ZP ?_) | (with_reducible refine And.intro ?_ ?_)))
   ·exact fun h=>trivial
   ·exact Nat.zero_le _
   ·rw [ite_self,Nat.sub_zero];exact hK.out _ _ (.inr ⟨g,c,c * 3,rfl,hg,rfl,by simp,by simp,Nat.zero_le _,h2⟩)
 ·have hn:(n:Int)=0:=by omega
  clear w1
  (repeat' (first | (simp only [↓ZI,ZJ,↓s_cap,s_capL,intV,ZnW,ZnY,Nat.zero_ne_one,reduceCtorEq,ZM,undef,Zom,Yn, *]) | (refine ZP ?_)))
  exact hK.out _ _ (OwnX.nil _ _ _)
abbrev exssE (l:List Ex):List VV:=[exsV l]
theorem ZbP (a:Ex):(exE a).all VV.one=true:=by rw [XC]; rfl
theorem Znv (ex:Bool) (L:List (List Ex)) (hL:L.length≤1099511627776) (hs:L.flatten.length≤1099511627776):PureF Tryz.prog 98 [.slice ex L.length (encC exssE L)] (exsV L.flatten):=by
 have htk:∀ i,(L.take i).flatten.length≤1099511627776:=fun i=>by
  have e:=congrArg (fun l=>l.flatten.length) (ZoU i L);simp only [List.flatten_append,Zow] at e;omega
 refine Xo.pure fun H=>?_
 refine ZN fd98 (by simp) ?_;delta c98 Zq Zf Za Ze
 (repeat' (first | (simp only [↓ZI,ZJ,intV,ZnW,ZnY,reduceCtorEq,ZM,undef,Ze5, *])))
 refine ZW (fun _ _ _ h=>h) (fun A H'=>H'=H∧A.d=[]∧A.t 0=.slice ex L.length (encC exssE L)∧A.t 9=.slice ex L.length (encC exssE L)∧A.t 10=iV L.length∧∃ (i:Nat),i≤L.length∧A.t 11=iV i∧A.t 3=iV ((L.take i).flatten.length:Nat))
  (fun A _=>match A.t 11 with | .lit (.int _ i)=>((L.length:Int) - i).toNat | _=>0) ?_ ?_
 ·exact ⟨rfl,rfl,rfl,rfl,rfl,0,by omega,rfl,rfl⟩
 ·rintro ⟨t,d⟩ H' ⟨rfl,rfl,h0,h9,h10,i,hi,h11,h3⟩;dsimp only at h0 h9 h10 h11 h3;delta b98_1 Zn Zr Zk Zb Zc Za Ze Zm Zq;by_cases hlt:i < L.length
  ·have hil:(i:Int) < (L.length:Int):=by omega
   have hdi:(encC exssE L).drop i=exsV L[i] :: encC exssE (L.drop (i + 1)):=Zb1 (enc:=fun l:List Ex=>exsV l) hlt;have hsn:(L.take (i + 1)).flatten.length=(L.take i).flatten.length + L[i].length:=by rw [YL hlt,List.flatten_append,Zow]; simp
   have h1:=htk (i + 1);have w1:IntKind.i64.wrap (((L.take i).flatten.length:Int) + (L[i].length:Int))=((L.take (i + 1)).flatten.length:Int):=by rw [ZR (by omega) (by omega)]; omega
   have hge:¬ ((L.take (i + 1)).flatten.length:Int) < 0:=by omega
   clear hsn
   (repeat' (first | (simp only [↓ZI,ZJ,intV,ZnW,ZnY,reduceCtorEq,Yz,Ze5,Yn, *]) | (with_reducible refine And.intro ?_ ?_)))
   all_goals rw [ZR (n:=(i:Int) + 1) (by omega) (by omega)]
   ·exact ⟨i + 1,by omega,rfl,rfl⟩
   ·omega
  ·have hil:¬ (i:Int) < (L.length:Int):=by omega
   rw [Zos (by omega)] at h3
   (repeat' (first | (simp only [↓ZI,ZJ,ZnY, *])))
   delta c98_2 Za Zo Zr Zc Ze Zq;refine Ya rfl (fun _ _ _ h=>h) ?_
   (repeat' (first | (simp only [↓ZI,ZJ,intV,ZnW,ZnY,reduceCtorEq,Ze5,en_132, *]) | (refine grow_ok _ hs (fun v H2 ho=>?_))))
   refine ZW (fun _ _ _ h=>h) (fun A H2=>A.d=[]∧A.t 25=.slice ex L.length (encC exssE L)∧A.t 26=iV L.length∧∃ (k:Nat) (Hb:AH),k≤L.length∧A.t 27=iV k∧SubH H' Hb∧OwnX Hb H2 35 3 (A.t 6) (L.take k).flatten.length (encC exE (L.take k).flatten))
    (fun A _=>match A.t 27 with | .lit (.int _ i)=>((L.length:Int) - i).toNat | _=>0) ?_ ?_
   ·exact ⟨rfl,(by simp only [ZL,ZnW,if_true,if_false, *]<;>rfl),(by simp only [ZL,ZnW,if_true,if_false, *]<;>rfl),0,_,by omega,(by simp only [ZL,ZnW,if_true,if_false, *]<;>rfl),Zn1 _,by simp only [ZL,ZnW,if_true,if_false]; exact ho⟩
   ·clear ho h0 h9 h10 h11 h3;rintro ⟨t,d⟩ H2 ⟨rfl,h25,h26,k,Hb,hk,h27,hsb,ho⟩;dsimp only at h25 h26 h27 ho;delta b98_2 Zn Zr Zk Zb Zc Za Zl Zm;by_cases hkt:k < L.length
    ·have hkl:(k:Int) < (L.length:Int):=by omega
     have hdk:(encC exssE L).drop k=exsV L[k] :: encC exssE (L.drop (k + 1)):=Zb1 (enc:=fun l:List Ex=>exsV l) hkt;have h1:=htk (k + 1);have e:(L.take (k + 1)).flatten=(L.take k).flatten ++ L[k]:=by rw [YL hkt,List.flatten_append]; simp
     rw [e,Zow] at h1
     (repeat' (first | (simp only [↓ZI,ZJ,ZnW,ZnY,Yz,Ze5, *])))
     refine Zb2 Yn Ys rfl (by omega) ho (XZ (enc:=exE) (k:=3) Wx _ false _) (Xv ZbP _) (by omega) (by omega) (fun v' H'' ho2=>?_);rw [← Yo,← Zow,← e] at ho2
     (repeat' (first | (simp only [↓ZI,ZJ,ZnW,ZnY, *]) | (with_reducible refine And.intro ?_ ?_)))
     all_goals rw [ZR (n:=(k:Int) + 1) (by omega) (by omega)]
     ·exact ⟨k + 1,_,by omega,rfl,hsb,ho2⟩
     ·omega
    ·have hkl:¬ (k:Int) < (L.length:Int):=by omega
     rw [Zos (by omega)] at ho
     (repeat' (first | (simp only [↓ZI,ZJ,ZnY, *]) | (refine Ya rfl (fun _ _ _ h=>h) ?_)))
     delta c98_1 Za Zc
     (repeat' (first | (simp only [↓ZI,ZJ,ZnW,ZnY, *]) | (refine ZP ?_)))
     exact ⟨_,rfl,GhV.back ho hsb⟩
theorem Zlm (a b:List Ex) (h:a.length + b.length≤1099511627776):PureF Tryz.prog 98 [.slice true 2 [exsV a,exsV b]] (exsV (a ++ b)):=by
 have:=Znv true [a,b] (by simp) (by simpa using h)
 have e1:encC exssE [a,b]=[exsV a,exsV b]:=by rw [Yr,Yr]; rfl
 have e2:[a,b].flatten=a ++ b:=by simp
 rw [e1,e2] at this;exact this
theorem fl_ret {H0 H:AH} {t:Nat→VV} {r:Nat} {x:Ex} {e':TypeId} (h2:t 2=ptrV r 0) (k2:H r=some (.cells e' [iV x.op,sV x.name,encS exE x.kids] 0)) (hs:SubH H0 H):YW Tryz.prog [.cell 2 35] (fun e H'=>e=.ret (exV x)∧SubH H0 H') .ret ⟨t,[]⟩ H :=
 Yk rfl (by simp only [resV,YO,YN,Yt,h2,k2,ptrV,ZoB,Xt,Zol,Zog,tupV]) ⟨rfl,hs⟩
theorem ZmS {p:Pr} {b:List ByteArray} {e:Ex} (hsd:e.sdF p b=0) (hs:e.sz≤1099511627776):PureF Tryz.prog 64 [exV e] (exV e.flat):=by
 refine Zoj fun H0=>?_
 refine ZN fd64 (by simp) ?_;delta c64 Zj Zi;obtain ⟨F,hF⟩:∃ F,F=e.flat:=⟨_,rfl⟩
 rw [← hF];replace hF:=Zn0 hF
 (repeat' (first | (simp only [↓ZI,ZJ,ptrV,ZnY,ZM,undef,Ys, *]) | (refine ZK fun zr zh=>?_; have zg:=zh; (try simp only [Zn2] at zg))))
 rename_i r1 n1 n1';have d12:=zg.1.2;have d21:=zg.1.1;have g2:=zg.2
 refine Jz (fun t H=>t 1=ptrV r1 0∧t 2=ptrV zr 0∧SubH H0 H∧(∃ a b c,H zr=some (.cells 35 [a,b,c] 0))∧∃ e':Ex,H r1=some (.cells 35 [iV e'.op,sV e'.name,encS exE e'.kids] 0)∧F=e'.flat∧e'.sdF p b=0∧e'.sz≤1099511627776)
  ⟨(by simp only [ZL,ZnW,if_true,if_false, *]<;>rfl),(by simp only [ZL,ZnW,if_true,if_false, *]<;>rfl),(Zn5 n1).of_set zg.2,⟨_,_,_,Zn4 _ _ _⟩,e,(by simp only [Zn8, *,if_true,if_false]<;>rfl),hF.out,hsd,hs⟩ ?_
 clear hsd hs hF zh zg;generalize zr=r2 at *
 rintro t B ⟨h1,h2,hsb,k2,e1,k1,hF,hsd,hs⟩
 refine Znu (fun _ _ _ h=>h) (fun n A H'=>A.d=[]∧A.t 1=ptrV r1 0∧A.t 2=ptrV r2 0∧SubH H0 H'∧(∃ a b c,H' r2=some (.cells 35 [a,b,c] 0))∧∃ e':Ex,H' r1=some (.cells 35 [iV e'.op,sV e'.name,encS exE e'.kids] 0)∧F=e'.flat∧e'.sdF p b=0∧e'.sz≤1099511627776∧e'.sz=n)
  (n0:=e1.sz) ⟨rfl,h1,h2,hsb,k2,e1,k1,hF,hsd,hs,rfl⟩ ?_
 clear h1 h2 hsb k2 k1 hF hsd hs;rintro n ⟨t,d⟩ H' ⟨rfl,h1,h2,hsb,⟨a,b',c,k2⟩,e',k1,hF,hsd,hs,hn⟩ R hRR;dsimp only at h1 h2;delta b64_1 Zd Zb Zm Za Zp Zr Zq Zo Zg;cases hi:e'.inner with
 | some x =>
   obtain ⟨k,r⟩:=x;obtain ⟨i1,i2,i3⟩:=Ex.inner_some hi;have hz:=Ex.inner_sz hi;have hzk:=k.sz_eq;have hkl:=YC (k.kids ++ r);have hz2:=Ex.sz_eq (Ex.mk 4 noNm (k.kids ++ r));have hcc:=Zlm k.kids r (by rw [Zow] at hkl; change _=1 + exsSz (k.kids ++ r) at hz2; omega)
   have hnew:=Zn0 (show (Ex.mk 4 noNm (k.kids ++ r)).sz < n∧F=(Ex.mk 4 noNm (k.kids ++ r)).flat∧(Ex.mk 4 noNm (k.kids ++ r)).sdF p b=0∧(Ex.mk 4 noNm (k.kids ++ r)).sz≤1099511627776 from by
    exact ⟨by omega,by rw [hF,Ex.flat_some hi],Zhc hi hsd,by omega⟩)
   rw [i1,i2] at k1;have ek:encS exE (k :: r)=.slice false (r.length + 1) (iV k.op :: sV k.name :: encS exE k.kids :: encC exE r):=by rw [encS,Yr,XC]; rfl
   rw [ek,i3] at k1;clear hz hzk hkl hz2 hF hsd hs hn ek i1 i2;replace hRR:=Zn0 hRR;have hl0:(0:Int) < ((r.length + 1:Nat):Int):=by omega
   (repeat' (first | (simp only [↓ZI,ZJ,ptrV,ZnW,ZnY,Zn7,Zor,Zof,ZX,fillV,setAt,ZnZ,ZeS,Zok,ZQ,ZoI,ZoK,Int.reduceToNat,YB,ZoC,Zog,YV,idxV,idxOk,imp_self,ZX,Yg,Yj,Yc,Yz,YD,WJ,Yn,Ze5,zeroT_33,en_98, *]) | (refine ZS mixed (fun _ _ _ _ e h=>⟨e.trans h.1,h.2⟩) _ (Zn1 _) ?_) | (refine Zn3 (hcc) ?_)))
   have hn:=hnew.out;exact hRR.out _ _ _ hn.1 ⟨rfl,by simp only [ZL,ZnW,if_false]; exact h1,by simp only [ZL,ZnW,if_false]; exact h2,hsb.of_set n1,⟨a,b',c,by rw [Zoa _ _ d21]; exact k2⟩,Ex.mk 4 noNm (k.kids ++ r),Zn4 _ _ _,hn.2.1,hn.2.2.1,hn.2.2.2,rfl⟩
 | none =>
   by_cases h4:e'.op=4
   ·obtain ⟨hnn,k,k2',r,hk⟩:=Zdy hsd h4;have hk4:¬ k.op=4:=fun h=>by simp [Ex.inner,h4,hk,h] at hi
    have ek:encS exE (k :: k2' :: r)=.slice false (r.length + 2) (iV k.op :: sV k.name :: encS exE k.kids :: encC exE (k2' :: r)):=by rw [encS,Yr,XC]; rfl
    have e1:=Ex.flat_none hi;rw [e1] at hF;replace hF:=Zn0 hF;have k1':=k1;rw [h4,hk,ek] at k1;have hl0:(0:Int) < ((r.length + 2:Nat):Int):=by omega
    replace ek:=Zn0 ek;clear hi hsd hs hn e1
    (repeat' (first | (simp only [↓ZI,ZJ,ptrV,ZnW,ZnY,ZnZ,Zok,ZoI,ZoK,Yg,Yj,Yc,Yz,Yn, *]) | (refine Ya rfl (fun _ _ _ h=>h) ?_)))
    delta c64_1 Zb Zg
    (repeat' (first | (simp only [↓ZI,ZJ,ptrV,ZnW,ZnY,Zn7,setAt,ZnZ,Yt,YD, *])))
    refine fl_ret (r:=r2) (x:=F) (e':=35) (by simp only [ZL,ZnW,if_false]; exact h2) ?_ (hsb.of_set g2);rw [Zn4,hF.out,h4,hk,ek.out,hnn]
   ·have e1:=Ex.flat_none hi;rw [e1] at hF;replace hF:=Zn0 hF;clear hi hsd hs hn e1
    (repeat' (first | (simp only [↓ZI,ZJ,ptrV,ZnW,ZnY,ZU,ZM,ZnZ,undef,Yg,Yc, *]) | (refine Ya rfl (fun _ _ _ h=>h) ?_)))
    delta c64_1 Zb Zg
    (repeat' (first | (simp only [↓ZI,ZJ,ptrV,ZnW,ZnY,Zn7,setAt,ZnZ,Yt,YD, *])))
    refine fl_ret (r:=r2) (x:=F) (e':=35) (by simp only [ZL,ZnW,if_false]; exact h2) ?_ (hsb.of_set g2);rw [Zn4,hF.out]
end Go.PV.YtglpmlbbaedbiaaGreat
end
section
open Bool renaming false_eq_true→ZoS
open Go.PV.AH renaming set_none→Zn2,set_same→Zn4,ne_of→ZnX,get→Zn8
open Go.PV.GhL renaming cons→Zod
open Go.PV.GhV renaming forget→Zoi,refl→Zoq
open Go.PV.Hold renaming mk→Zn0
open Go.PV.PureF renaming use→Zn3
open Go.PV.SubH renaming new→Zn5,refl→Zn1,of_set→Zn6
open Int renaming reduceNeg→ZoA,reduceEq→Zoh,reduceLE→Zok,toNat_zero→ZoI
open List renaming drop_zero→ZoB,drop→ZnZ,length_cons→Zox,map_cons→Zou,map_nil→ZoE,getD_cons_zero→ZoP,getD_cons_succ→ZoQ,getD_nil→ZoR,getElem_mem→Zn9,nil_append→ZoV,all_cons→ZoT,set_cons_zero→Zo1,set_cons_succ→Zo0
open Nat renaming reduceEqDiff→ZnW,reduceLT→ZnY,reduceAdd→Zn7,reduceMul→Zor,reduceLeDiff→Zof,lt_or_ge→Zoy,le_refl→Zoc,succ_ne_self→ZoD,zero_add→Zot,add_zero→ZoL,zero_mul→ZoK
open Option renaming bind_some→Zol,map_some→Zog,map_none→ZoC
set_option maxRecDepth 20000
set_option maxHeartbeats 4000000
namespace Go.PV.YtglpmlbbaedbiaaGreat
open Go Go.Proofs
theorem ap_ret {H0 H:AH} {t:Nat→VV} {r sp:Nat} {a b c x:VV} {e':TypeId} (h4:t 4=ptrV r 0) (k4:H r=some (.cells e' [a,b,c] sp)) (hg:GhV H (.agg [a,b,c]) H0 x):YW Tryz.prog [.cell 4 35] (fun e H'=>∃ y,e=.ret y∧GhV H' y H0 x) .ret ⟨t,[]⟩ H :=
 Yk rfl (by simp only [resV,YO,YN,Yt,h4,k4,ptrV,ZoB,Xt,Zol,Zog,tupV]) ⟨_,rfl,hg⟩
theorem ZgJ (ex:Bool) (e:Ex) (l:List Ex) (hl:l.length≤1099511627776):PureF Tryz.prog 70 [exV e,.slice ex l.length (encC exE l)] (exV (Xl e l)):=by
 refine Xo.pure fun H=>?_
 refine ZN fd70 (by simp) ?_;delta c70 Zj Zi Za Ze Zm Zr Zb Zg Zq Zl;unfold Xl;by_cases h0:l.length=0
 ·have h0':(l.length:Int)=0:=by omega
  rw [if_pos h0];clear h0
  (repeat' (first | (simp only [↓ZI,ZJ,ptrV,intV,ZnW,ZnY,Zn7,reduceCtorEq,ZM,setAt,ZnZ,undef,Yt,YD,Ys,Yn, *]) | (refine ZK fun zr zh=>?_; have zg:=zh; (try simp only [Zn2] at zg))))
  rename_i r2 n2 n2';exact ap_ret (e':=35) (sp:=0) (by simp only [ZL,ZnW,if_true,if_false, *]<;>rfl) (Zn4 _ _ _) (Zoi ((Zn5 n2).of_set zg.2) _)
 ·have h0':¬ (l.length:Int)=0:=by omega
  rw [if_neg h0]
  (repeat' (first | (simp only [↓ZI,ZJ,ptrV,intV,ZnW,ZnY,Zn7,Zor,Zof,reduceCtorEq,ZM,fillV,setAt,ZnZ,undef,ZQ,ZQ,Yt,Ys,Yn, *]) | (refine ZK fun zr zh=>?_; have zg:=zh; (try simp only [Zn2] at zg))))
  rename_i r2 n2 n2';refine Xy Yn Ys rfl (by omega) rfl (XZ (enc:=exE) (k:=3) Wx _ ex _) (Xv ZbP _) (by omega) (by omega) (fun h=>absurd h h0) (fun _ v' H' ho=>?_);have k4:=ho.sub _ _ (Zn4 _ _ _);have hc1:=ho.cells.1;have hc2:=ho.cells.2;have e1:[iV e.op,sV e.name,encS exE e.kids] ++ encC exE l=encC exE (e :: l):=by rw [Yr,XC]
  have e2:1 + l.length=(e :: l).length:=by rw [Zox]; omega
  have ho':=ho.put (Zn4 _ _ _) (.cells 35 [iV 4,sV noNm,v'] 0);rw [e1,e2,AH.set_set] at ho';replace ho':=Zn0 ho';clear ho e1 e2
  (repeat' (first | (simp only [↓ZI,ZJ,ZnW,ZnY,Zn7,Zof,ZX,fillV,setAt,ZX,YD,WJ, *])))
  refine ap_ret (e':=35) (sp:=0) (by simp only [ZL,ZnW,if_true,if_false, *]<;>rfl) (Zn4 _ _ _) ?_;exact GhV.agg (Zod (Zoq _ _) (Zod (Zoq _ _) (Zod (GhV.back ho'.out ((Zn5 n2).of_set zg.2)) (GhL.nil _))))
theorem idxEx {l:List Ex} {ex:Bool} {f:VV} {p:Ex→Bool} {H:AH} {K:VE→AH→Prop} (hl:l.length≤1099511627776)
 (hf:∀ i (h:i < l.length),FnAt Tryz.prog f [exV l[i]] (boolV (p l[i])) H) (hK:K (.ret (iV (idxF p l))) H):Yh Tryz.prog 67 [.slice ex l.length (encC exE l),f] H K:=by
 refine ZN fd67 (by simp) ?_;delta c67 Zf Za Ze Zq
 (repeat' (first | (simp only [↓ZI,ZJ,intV,ZnW,ZnY,reduceCtorEq,ZM,undef,Yn, *])))
 refine ZW (fun _ _ _ h=>h) (fun A H'=>H'=H∧A.d=[]∧A.t 0=.slice ex l.length (encC exE l)∧A.t 1=f∧A.t 7=iV l.length∧∃ i:Nat,i≤l.length∧A.t 8=iV i∧∀ j (h:j < l.length),j < i→p l[j]=false)
  (fun A _=>match A.t 8 with | .lit (.int _ i)=>((l.length:Int) - i).toNat | _=>0) ?_ ?_
 ·exact ⟨rfl,rfl,rfl,rfl,rfl,0,by simp,rfl,by simp⟩
 ·rintro ⟨t,d⟩ H' ⟨rfl,rfl,h0,h1,h7,i,hi,h8,hj⟩;dsimp only at h0 h1 h7 h8;delta b67_1 Zn Zr Za Zc Zk Zb Zq Zm;by_cases hlt:i < l.length
  ·have hil:(i:Int) < (l.length:Int):=by omega
   have hdi:=XB hlt
   (repeat' (first | (simp only [↓ZI,ZJ,boolV,ZnW,ZnY,reduceCtorEq,Yt,Yn, *]) | (refine Ym ?_ ?_<;>intro) | (refine ZP ?_) | (refine hf _ hlt _ ?_) | (with_reducible refine And.intro ?_ ?_)))
   ·rw [← XP hlt (by assumption) (fun j h=>hj j (by omega) h)];exact hK
   ·rw [ZR (by omega) (by omega)];refine ⟨i + 1,by omega,by simp,fun j h h'=>?_⟩;rcases Zoy j i with h2 | h2
    ·exact hj j h h2
    ·obtain rfl:j=i:=by omega
     assumption
   ·rw [ZR (by omega) (by omega)];omega
  ·have hil:¬ (i:Int) < (l.length:Int):=by omega
   (repeat' (first | (simp only [↓ZI,ZJ,ZnY, *]) | (refine Ya rfl (fun _ _ _ h=>h) ?_)))
   delta c67_1 Zq
   (repeat' (first | (simp only [↓ZI,ZJ,ZnW,ZnY,ZoA, *]) | (refine ZP ?_)))
   rw [show (-1:Int)=idxF p l from (Wp fun j h=>hj j h (by omega)).symm];exact hK
theorem contEx {l:List Ex} {ex:Bool} {f:VV} {p:Ex→Bool} {H:AH} {K:VE→AH→Prop} (hl:l.length≤1099511627776)
 (hf:∀ i (h:i < l.length),FnAt Tryz.prog f [exV l[i]] (boolV (p l[i])) H) (hK:K (.ret (boolV (l.any p))) H):Yh Tryz.prog 62 [.slice ex l.length (encC exE l),f] H K:=by
 refine ZN fd62 (by simp) ?_;delta c62 Zq Za Zo Zr Zm Zc;have e:decide (0≤idxF p l)=l.any p:=Zha;rw [← e] at hK;replace hK:=Zn0 hK;clear e
 (repeat' (first | (simp only [↓ZI,ZJ,ZnW,ZnY,reduceCtorEq,ZM,undef,ZkX, *]) | (refine ZP ?_) | (refine idxEx hl hf ?_)))
 exact hK.out
theorem isV63 {p:Pr} {m1 m2 r2:Nat} {k:Ex} {q:Bool} {H:AH} (hr:H r2=some (.cells 85 (tabE m1 m2) 0)) (hk:∀ H',SubH H H'→ReadF Tryz.prog 37 [.agg (tabE m1 m2),exV k] (boolV q) H') :
 FnAt Tryz.prog (.func (.func 63) [] [ptrV r2 0]) [exV k] (boolV (!q)) H:=by
 refine FnAt.cap en_63 fun K hK=>?_
 refine ReadF.use (x:=boolV (!q)) ?_ hK;refine ZN fd63 (by simp) ?_;delta c63 Zj Zq Zb Zo Zr Zc
 (repeat' (first | (simp only [↓ZI,ZJ,ptrV,boolV,ZnW,ZnY,ZM,ZnZ,undef,WR,Yt,Zci, *]) | (refine ZP ?_) | (refine ZK fun zr zh=>?_; have zg:=zh; (try simp only [Zn2] at zg); (try have zn_hr:=ZnX hr zh); (try have zn_hr:=ZnX hr zg.2); (try have zn_hr:=ZnX hr zg.2.2)) | (exact Zn1 _) | (refine Zn6 ?_ ?_) | (refine (hk _ ?_).use ?_)))
theorem isV61 {p:Pr} {m1 m2 r2:Nat} {l:List Ex} {ex:Bool} {q:Ex→Bool} {H:AH} {K:VE→AH→Prop} (hl:l.length≤1099511627776) (hr:H r2=some (.cells 85 (tabE m1 m2) 0)) (hk:∀ i (h:i < l.length) H',SubH H H'→ReadF Tryz.prog 37 [.agg (tabE m1 m2),exV l[i]] (boolV (q l[i])) H') (hK:K (.ret (boolV (l.all q))) H) :
 Yh Tryz.prog 61 [.slice ex l.length (encC exE l),ptrV r2 0] H K:=by
 refine ZN fd61 (by simp) ?_;delta c61 Zq Za Zr Zo Zc;have e:(!l.any fun x=>!q x)=l.all q:=by rw [List.not_any_eq_all_not]; simp
 rw [← e] at hK;replace hK:=Zn0 hK;have hc:=fun K hK=>contEx (ex:=ex) (f:=.func (.func 63) [] [ptrV r2 0]) (p:=fun x=>!q x) (H:=H) (K:=K) hl (fun i h=>isV63 (p:=p) hr (hk i h)) hK
 clear hr hk e
 (repeat' (first | (simp only [↓ZI,ZJ,ptrV,boolV,ZnW,ZnY,reduceCtorEq,ZM,undef,en_62, *]) | (refine ZP ?_) | (refine hc _ ?_)))
 exact hK.out
theorem nm_flat {e:Ex} (h:e.nmOk):e.flat.nmOk:=by
 refine (Ex.flat_ind (p:=fun e=>e.nmOk) (fun e k r hi he=>?_) e.sz e (Zoc _) h).1;obtain ⟨h1,h2,h3⟩:=Ex.inner_some hi;have he':=Ex.nmOk_iff.1 he;have hk:=Ex.nmOk_iff.1 (he'.2 k (by rw [h2]; simp));refine Ex.nmOk_iff.2 ⟨Nat.zero_le 1099511627776,?_⟩;simp only [Ex.kids];intro x hx;rcases List.mem_append.1 hx with hx | hx
 ·exact hk.2 x hx
 ·exact he'.2 x (by rw [h2]; simp [hx])
theorem ZdD {p:Pr} (hnd:NdP p) {s:ByteArray} (h:0≤atFu p.funs s):∃ j,∃ hj:j < p.funs.length,atFu p.funs s=j∧arFu p.funs s=p.funs[j].arity∧funMk p.funs p.funs.length s=some (.iptr (sV p.funs[j].name :: iV p.funs[j].arity :: clsV p.funs[j].cls :: encC fuE (p.funs.drop (j + 1)))):=by
 rcases ZkB hnd.funs s with ⟨h1,_⟩ | ⟨j,hj,h1,h2,h3⟩
 ·omega
 ·refine ⟨j,hj,h1,?_,by rw [h3,WE hj]⟩;unfold arFu;rw [h1]; simp [hj]
theorem Zl5 {p:Pr} (hnd:NdP p) {m1 m2:Nat}:∀ (n:Nat) (e:Ex) (b:List ByteArray) (H:AH),e.sz < n→e.sz≤1099511627776→e.nmOk→e.sdF p b=0→TabAt H (.agg (tabE m1 m2)) p→ReadF Tryz.prog 37 [.agg (tabE m1 m2),exV e] (boolV (e.isV p)) H:=by
 intro n
 induction n with
 | zero=>intro e b H h0; omega
 | succ n ih =>
   intro e b H h0 hs hnm hsd hv;have z:=e.sz_eq;have hkl:=YC e.kids;have hkN:e.kids.length≤1099511627776:=by omega
   have hsd':=Xq.1 hsd;have hown:=XR.1 hsd'.1;have hnm':=Ex.nmOk_iff.1 hnm;have hzn:e.name.size≤maxLen:=by have:=hnm'.1; unfold maxLen; omega
   obtain ⟨a1,a2,ha,hm1,hm2⟩:=hv;obtain ⟨rfl,rfl⟩:a1=m1∧a2=m2:=by simpa [tabE,eq_comm] using ha
   have hv:∀ H',SubH H H'→TabAt H' (.agg (tabE a1 a2)) p:=fun H' h=>⟨a1,a2,rfl,h _ _ hm1,h _ _ hm2⟩
   rw [Ex.isV_eq];refine ZN fd37 (by simp) ?_;delta c37 Zj Zq Zr Zc Zd Zb Zm Za Zo Zg Zi Zp;by_cases h5:e.op=5
   ·rw [if_pos h5];clear ih hsd hsd' hown
    (repeat' (first | (simp only [↓ZI,ZJ,ptrV,boolV,ZnW,ZnY,ZM,ZnZ,undef,Yg,Yc, *]) | (refine ZP ?_) | (refine ZK fun zr zh=>?_; have zg:=zh; (try simp only [Zn2] at zg); (try have zn_hm1:=ZnX hm1 zh); (try have zn_hm1:=ZnX hm1 zg.2); (try have zn_hm1:=ZnX hm1 zg.2.2)) | (exact Zn1 _) | (refine Zn6 ?_ ?_)))
   ·rw [if_neg h5];by_cases h2:e.op=2
    ·rw [if_pos h2];obtain ⟨j,hj,_,har,hfm⟩:=ZdD hnd (hown.2.1 h2);rw [har];clear ih hsd hsd' hown h5
     (repeat' (first | (refine ZeD Zaa hzn hfm (by first | assumption | simp only [Zn8, *,if_false]) ?_) | (simp only [↓WV,↓WW,↓Wu,↓Ww,↓Jf,↓XA,↓Zck,↓WX,↓Xe,↓Xf,↓Zak,↓Zgl,↓XK,↓XL,↓XM,↓XN,↓We,↓ZL,↓Xk,↓Wf,↓ZaT,↓JB,↓Zbp,↓JS,↓YQ,↓Jm,↓ZaM,↓XE,vcNil,ptrV,boolV,Zou,ZoE,ZoP,ZoQ,ZoR,ite_true,ite_false,ZnW,ZnY,ne_eq,not_false_eq_true,true_and,ZoS,ZoD,decide_true,decide_false,ZM,Zn8,eq_self,Zot,ZoL,ZnZ,Zaf,WB,↓Zbq,ZdU,JC,Zk0,ZaW,JD,ZdV,Jo,ZaX,undef,Zoh,okV,Yg,Za6,Yw,JK,Yc,ZeA,Ye, *]) | (refine ZP ?_) | (refine ZK fun zr zh=>?_; have zg:=zh; (try simp only [Zn2] at zg); (try have zn_hm1:=ZnX hm1 zh); (try have zn_hm1:=ZnX hm1 zg.2); (try have zn_hm1:=ZnX hm1 zg.2.2)) | (exact Zn1 _) | (refine Zn6 ?_ ?_)))
    ·rw [if_neg h2];by_cases h3:e.op=3
     ·rw [if_pos h3];have hall:=fun (r2:Nat) (H':AH) (hsb:SubH H H') hr (K:VE→AH→Prop)=>isV61 (p:=p) (m1:=a1) (m2:=a2) (r2:=r2) (l:=e.kids) (ex:=false) (q:=fun x=>x.isV p) (H:=H') (K:=K) hkN hr (fun i h H2 h2=>ih _ _ _ (by have:=Yl (Zn9 h); omega) (by have:=Yl (Zn9 h); omega) (hnm'.2 _ (Zn9 h)) (hsd'.2 _ (Zn9 h)) (hv _ (hsb.trans h2)))
      clear ih hsd hsd' hown h5 h2
      (repeat' (first | (simp only [↓ZI,ZJ,ptrV,boolV,ZnW,ZnY,ZM,ZnZ,undef,Zoh,Yg,Yj,Yc,Yz,en_61, *]) | (refine ZP ?_) | (refine ZK fun zr zh=>?_; have zg:=zh; (try simp only [Zn2] at zg); (try have zn_hm1:=ZnX hm1 zh); (try have zn_hm1:=ZnX hm1 zg.2); (try have zn_hm1:=ZnX hm1 zg.2.2)) | (exact Zn1 _) | (refine Zn6 ?_ ?_) | (refine hall _ _ ?_ ?_ _ ?_)))
     ·rw [if_neg h3];by_cases h4:e.op=4
      ·rw [if_pos h4];have hfl:=ZmS hsd hs;have hfz:=e.flat_sz;have hfs:=Zjd hsd;have hfn:=nm_flat hnm;have hf4:=e.flat_op h4;have hfi:=e.flat_inner;generalize e.flat=F at *
       obtain ⟨hFn,k,k2,r,hFk⟩:=Zdy hfs hf4;have hfs':=(Xq.1 hfs).2;rw [hf4] at hfs';simp only [show ¬ (4:Int)=5 by decide,if_false] at hfs';have hks:=hfs' k (by rw [hFk]; simp);have hkn:=(Ex.nmOk_iff.1 hfn).2 k (by rw [hFk]; simp);have hzk:k.name.size≤maxLen:=by have:=(Ex.nmOk_iff.1 hkn).1; unfold maxLen; omega
       have hFz:=F.sz_eq;rw [hFk] at hFz;have hrl:=YC (k2 :: r);rw [exsSz] at hFz
       have hr:∀ x∈k2 :: r,x.sz < n∧x.sz≤1099511627776∧x.nmOk∧x.sdF p b=0:=fun x hx=>by
        have:=Yl hx
        exact ⟨by omega,by omega,(Ex.nmOk_iff.1 hfn).2 x (by rw [hFk]; simp [hx]),hfs' x (by rw [hFk]; simp [hx])⟩
       rw [hFk];dsimp only;generalize k2 :: r=r' at *
       have hrN:r'.length≤1099511627776:=by omega
       have ek:encS exE F.kids=.slice false (r'.length + 1) (iV k.op :: sV k.name :: encS exE k.kids :: encC exE r'):=by rw [hFk,encS,Yr,XC]; rfl
       have q1:VV.agg [iV 4,sV e.name,encS exE e.kids]=exV e:=by show _=VV.agg [iV e.op,sV e.name,encS exE e.kids]; rw [h4]
       have q2:VV.agg [iV 4,sV F.name,.slice false (r'.length + 1) (iV k.op :: sV k.name :: encS exE k.kids :: encC exE r')]=exV F:=by show _=VV.agg [iV F.op,sV F.name,encS exE F.kids]; rw [hf4,ek]
       have hfl':PureF Tryz.prog 64 [.agg [iV 4,sV e.name,encS exE e.kids]] (.agg [iV 4,sV F.name,.slice false (r'.length + 1) (iV k.op :: sV k.name :: encS exE k.kids :: encC exE r')]):=by rw [q1,q2]; exact hfl
       have hall:=fun (r2:Nat) (H':AH) (hsb:SubH H H') hr2 (K:VE→AH→Prop)=>isV61 (p:=p) (m1:=a1) (m2:=a2) (r2:=r2) (l:=r') (ex:=false) (q:=fun x=>x.isV p) (H:=H') (K:=K) hrN hr2 (fun i h H2 h2=>by
        obtain ⟨q1,q2,q3,q4⟩:=hr _ (Zn9 h);exact ih _ _ _ q1 q2 q3 q4 (hv _ (hsb.trans h2)))
       have hl0:(0:Int) < ((r'.length + 1:Nat):Int):=by omega
       have hw:IntKind.i64.wrap (((r'.length + 1:Nat):Int) - 1)=(r'.length:Int):=by rw [ZR (by omega) (by omega)]; omega
       by_cases hk2:k.op=2
       ·obtain ⟨j,hj,_,har,hfm⟩:=ZdD hnd ((XR.1 (Xq.1 hks).1).2.1 hk2);rw [har,hk2];rw [hk2] at hfl';clear ih hsd hsd' hown h5 h2 h3 hfl hfs hfn hf4 hfi hFn hFk hfs' hks hkn hFz hrl hr ek q1 q2
        (repeat' (first | (refine ZeD Zaa hzk hfm (by first | assumption | simp only [Zn8, *,if_false]) ?_) | (simp only [↓WV,↓WW,↓Wu,↓Ww,↓Jf,↓XA,↓Zck,↓ZbJ,↓WX,↓Xe,↓Zdk,↓ZcX,↓ZcY,↓Xf,↓Zak,↓Zgl,↓XK,↓XL,↓Zax,↓XM,↓Zay,↓XN,↓We,↓JR,↓ZL,↓WA,↓Xk,↓ZbK,↓Zdm,↓Zf2,↓Wf,↓JO,↓ZaT,↓JB,↓Jg,↓Zbp,↓JS,↓Zi9,↓YQ,↓Wa,↓Jm,↓Zal,↓WD,↓XY,↓Zmt,↓ZfT,↓Jw,↓XE,↓Zh8,vcNil,ptrV,intV,boolV,Zou,ZoE,Zox,List.length_nil,ZoP,ZoQ,ZoR,List.cons_append,ZoV,ite_true,ite_false,ZnW,ZnY,Zn7,Zor,Zof,ne_eq,not_false_eq_true,not_true_eq_false,true_and,List.drop_succ_cons,ZoB,ZoS,ZoD,decide_true,decide_false,Bool.true_and,Bool.false_and,reduceCtorEq,ZU,ZM,↓Zao,↓Zap,↓Zmv,↓Zko,Zn8,AH.set_set,setAt,ZoT,List.all_nil,Bool.and_self,eq_self,Zot,ZoL,ZnZ,and_self,Zaf,Xt,ZbN,Zcm,WB,Zaq,Zo1,Zo0,↓Jh,Wv,↓Zbq,Zoc,ZdU,JC,Zk0,ZaW,ZfV,Zcn,Zdo,JD,ZdV,Jo,ZaX,ZdW,ZdX,↓ZeQ,↓ZlW,↓Zkn,↓Zjz,↓Zgq,↓Zgs,undef,Zoh,Zok,okV,ZoI,ZoK,Int.reduceToNat,YB,ZoC,Zog,YV,idxV,idxOk,imp_self,Yg,Za6,Yw,JK,Yj,Yc,ZeA,Ye,Yz,Yt,YD,Ys,Yn,en_61,en_64, *]) | (refine Zct ?_ ?_<;>intro) | (refine ZP ?_) | (refine ZS mixed (fun _ _ _ _ e h=>⟨e.trans h.1,h.2⟩) _ (Zn1 _) ?_) | (refine ZK fun zr zh=>?_; have zg:=zh; (try simp only [Zn2] at zg); (try have zn_hm1:=ZnX hm1 zh); (try have zn_hm1:=ZnX hm1 zg.2); (try have zn_hm1:=ZnX hm1 zg.2.2)) | (exact Zn1 _) | (refine Zn6 ?_ ?_) | (refine Zn3 (hfl') ?_) | (refine hall _ _ ?_ ?_ _ ?_) | (with_reducible refine And.intro ?_ ?_)))
       ·clear ih hsd hsd' hown h5 h2 h3 hfl hfs hfn hf4 hfi hFn hFk hfs' hks hkn hFz hrl hr ek q1 q2
        (repeat' (first | (simp only [↓ZI,ZJ,ptrV,boolV,ZnW,ZnY,Zn7,ZU,ZM,setAt,ZnZ,undef,Zoh,Zok,ZoI,ZoK,Yg,Yj,Yc,Yz,Yt,YD,Ys,Yn,en_64, *]) | (refine ZP ?_) | (refine ZS mixed (fun _ _ _ _ e h=>⟨e.trans h.1,h.2⟩) _ (Zn1 _) ?_) | (refine ZK fun zr zh=>?_; have zg:=zh; (try simp only [Zn2] at zg); (try have zn_hm1:=ZnX hm1 zh); (try have zn_hm1:=ZnX hm1 zg.2); (try have zn_hm1:=ZnX hm1 zg.2.2)) | (exact Zn1 _) | (refine Zn6 ?_ ?_) | (refine Zn3 (hfl') ?_) | (with_reducible refine And.intro ?_ ?_)))
      ·rw [if_neg h4];clear ih hsd hsd' hown
       (repeat' (first | (simp only [↓ZI,ZJ,ptrV,boolV,ZnW,ZnY,ZM,ZnZ,undef,Yg,Yc, *]) | (refine ZP ?_) | (refine ZK fun zr zh=>?_; have zg:=zh; (try simp only [Zn2] at zg); (try have zn_hm1:=ZnX hm1 zh); (try have zn_hm1:=ZnX hm1 zg.2); (try have zn_hm1:=ZnX hm1 zg.2.2)) | (exact Zn1 _) | (refine Zn6 ?_ ?_)))
end Go.PV.YtglpmlbbaedbiaaGreat
end
section
open Bool renaming false_eq_true→ZoS
open Go.PV.AH renaming set_none→Zn2,ne_of→ZnX,get→Zn8,set_same→Zn4,set_ne→Zoa
open Go.PV.GhL renaming cons→Zod
open Go.PV.GhV renaming refl→Zoq,forget→Zoi
open Go.PV.Hold renaming mk→Zn0
open Go.PV.PureF renaming use→Zn3
open Go.PV.SubH renaming refl→Zn1,of_set→Zn6,new→Zn5
open Int renaming toNat_natCast→ZoJ,reduceLT→Zom,reduceLE→Zok,reduceNeg→ZoA,toNat_zero→ZoI,reduceEq→Zoh
open List renaming drop→ZnZ,drop_zero→ZoB,getElem?_eq_getElem→ZoH,getElem_mem→Zn9,map_cons→Zou,map_nil→ZoE,length_cons→Zox,getD_cons_zero→ZoP,getD_cons_succ→ZoQ,getD_nil→ZoR,all_cons→ZoT,set_cons_zero→Zo1,set_cons_succ→Zo0,mem_cons_of_mem→ZoY,length_take→ZoF,take_append_drop→ZoU
open Nat renaming reduceLT→ZnY,reduceEqDiff→ZnW,reduceAdd→Zn7,reduceMul→Zor,reduceLeDiff→Zof,succ_ne_self→ZoD,zero_add→Zot,add_zero→ZoL,le_refl→Zoc,zero_mul→ZoK
open Option renaming bind_some→Zol,map_some→Zog,map_none→ZoC
set_option maxRecDepth 20000
set_option maxHeartbeats 8000000
namespace Go.PV.YtglpmlbbaedbiaaGreat
open Go Go.Proofs
theorem cloneEx {l:List Ex} (hl:l.length≤1099511627776) (hne:0 < l.length) (H:AH):OwnF Tryz.prog 69 [exsV l] H 35 3 l.length (encC exE l):=by
 refine ZN fd69 (by simp) ?_;delta c69 Zq Za Zr Zl Zc
 (repeat' (first | (simp only [↓ZI,ZJ,ZnY,reduceCtorEq,ZM,undef, *])))
 refine ZlZ und_33 fun b hb=>?_
 have hb:=hb hne;subst hb
 (repeat' (first | (simp only [↓ZI,ZJ,boolV,ZnW,ZnY,Zn7,Zor,Zof,reduceCtorEq,fillV,ZQ,ZQ,Yn,Ys, *])))
 refine Xy Yn Ys rfl (by omega) rfl (XZ (enc:=exE) (k:=3) Wx H false l) (Xv ZbP l) (by omega) (by omega) (fun h=>by omega) (fun _ v' H' ho=>?_)
 (repeat' (first | (simp only [↓ZI,ZJ,ZnW,ZnY, *]) | (refine ZP ?_)))
 exact ⟨_,H,rfl,Zn1 _,by simpa using ho⟩
theorem isV68 {p:Pr} {m1 m2 r2:Nat} {k:Ex} {q:Bool} {H:AH} (hr:H r2=some (.cells 85 (tabE m1 m2) 0)) (hk:∀ H',SubH H H'→ReadF Tryz.prog 37 [.agg (tabE m1 m2),exV k] (boolV q) H') :
 FnAt Tryz.prog (.func (.func 68) [] [ptrV r2 0]) [exV k] (boolV (!q)) H:=by
 refine FnAt.cap en_68 fun K hK=>?_
 refine ReadF.use (x:=boolV (!q)) ?_ hK;refine ZN fd68 (by simp) ?_;delta c68 Zj Zq Zb Zo Zr Zc
 (repeat' (first | (simp only [↓ZI,ZJ,ptrV,boolV,ZnW,ZnY,ZM,ZnZ,undef,WR,Yt,Zci, *]) | (refine ZP ?_) | (refine ZK fun zr zh=>?_; have zg:=zh; (try simp only [Zn2] at zg); (try have zn_hr:=ZnX hr zh); (try have zn_hr:=ZnX hr zg.2); (try have zn_hr:=ZnX hr zg.2.2)) | (exact Zn1 _) | (refine Zn6 ?_ ?_) | (refine (hk _ ?_).use ?_)))
structure FuOk (p:Pr):Prop where
 nd:NdP p
 sz:∀ f∈p.funs,fuSz f≤1099511627776
 nm:∀ f∈p.funs,∀ c∈f.cls,∀ s∈ZT c.pats,s.size≤maxLen
abbrev spV (r:Ex × Int):VV:=.tuple [exV r.1,iV r.2]
def stQ (H0:AH) (R:Ex × Int):APost:=YW Tryz.prog [.cell 4 35,.tmp 5] fun e H'=>∃ y,e=VE.ret y∧GhV H' y H0 (spV R)
theorem ZhK {H0 H:AH} {t:Nat→VV} {r sp:Nat} {c:Int} {a b d:VV} {e':TypeId} {x:Ex} (h4:t 4=ptrV r 0) (h5:t 5=iV c) (k4:H r=some (.cells e' [a,b,d] sp)) (hg:GhV H (.agg [a,b,d]) H0 (exV x)):stQ H0 (x,c) .ret ⟨t,[]⟩ H:=by
 refine Yk rfl (x:=.tuple [.agg [a,b,d],iV c]) (by simp only [resV,YO,YN,Yt,h4,h5,k4,ptrV,ZoB,Xt,Zol,Zog,tupV]) ⟨_,rfl,?_⟩;have h1:GhL H [.agg [a,b,d],iV c] H0 [exV x,iV c]:=Zod hg (Zod (Zoq _ _) (GhL.nil _));exact GhV.tuple h1
theorem ZdE {l:List Ex} {i:Nat} {x:Ex} (h:i < l.length):(((encC exE l).set (i * 3) (iV x.op)).set (i * 3 + 1) (sV x.name)).set (i * 3 + 1 + 1) (encS exE x.kids)=encC exE (l.set i x):=by
 have:=ZdY (enc:=exE) (k:=3) Wx x h
 rw [XC x] at this;exact this
theorem ZjJ {H0 H:AH} {t:Nat→VV} {r g n c sp:Nat} {op cd:Int} {name:ByteArray} {l:List Ex} {cs:List VV} {e' e2:TypeId} (h4:t 4=ptrV r 0) (h5:t 5=iV cd) (k4:H r=some (.cells e' [iV op,sV name,.lit (.slice (some ⟨g,0,none⟩) n c)] 0)) (kg:H g=some (.cells e2 cs sp)) (hcs:cs=encC exE l) (hn:n=l.length) (hle:n≤c) (hs:SubH H0 H) (gg:H0 g=none):stQ H0 (.mk op name l,cd) .ret ⟨t,[]⟩ H:=by
 subst hcs; subst hn;exact ZhK h4 h5 k4 (GhV.agg (Zod (Zoq _ _) (Zod (Zoq _ _) (Zod ((GhV.slice kg hle).trans (Zoi (hs.del gg) _)) (GhL.nil _)))))
theorem sel0_ok {f:Fu} (hf:fuSz f≤1099511627776) (hn:∀ c∈f.cls,∀ s∈ZT c.pats,s.size≤maxLen) {H:AH} {K:VE→AH→Prop} (hK:K (.ret (selV (Yy f []))) H):Yh Tryz.prog 66 [.agg [sV f.name,iV f.arity,clsV f.cls],.lit (.slice none 0 0)] H K:=by
 refine YM (Zod (Zoq _ _) (Zod (GhV.nil _) (GhL.nil _))) ?_;exact (Zir f [] hf (by simp) (by simp) hn).use hK
def StInv (H0:AH) (m1 m2:Nat) (E:Ex) (A:AF) (H:AH):Prop :=
 ∃ r2 r3 r4,A.d=[]∧A.t 2=ptrV r2 0∧A.t 3=ptrV r3 0∧A.t 4=ptrV r4 0∧A.t 5=iV 0∧SubH H0 H∧H0 r4=none∧H r2=some (.cells 85 (tabE m1 m2) 0) ∧
   H r3=some (.cells 35 [iV E.op,sV E.name,encS exE E.kids] 0)∧(∃ a b c,H r4=some (.cells 35 [a,b,c] 0))∧(¬ r2=r4∧¬ r4=r2)∧(¬ r3=r4∧¬ r4=r3)
theorem ZmT {p:Pr} (hp:FuOk p) {m1 m2:Nat}:∀ (n:Nat) (e:Ex) (H:AH),e.sz < n→e.sz≤1099511627776→e.nmOk→e.sdF p []=0→e.isV p=false→TabAt H (.agg (tabE m1 m2)) p→Xo Tryz.prog 39 [.agg (tabE m1 m2),exV e] (spV (stepF p e)) H:=by
 intro n
 induction n with
 | zero=>intro e H h0; omega
 | succ n ih =>
   intro e H h0 hs hnm hsd hnv hv;have z:=e.sz_eq;have hkl:=YC e.kids;have hkN:e.kids.length≤1099511627776:=by omega
   have hsd':=Xq.1 hsd;have hown:=XR.1 hsd'.1;have hnm':=Ex.nmOk_iff.1 hnm;have hzn:e.name.size≤maxLen:=by have:=hnm'.1; unfold maxLen; omega
   obtain ⟨a1,a2,ha,hm1,hm2⟩:=hv;obtain ⟨rfl,rfl⟩:a1=m1∧a2=m2:=by simpa [tabE,eq_comm] using ha
   have hv:∀ H',SubH H H'→TabAt H' (.agg (tabE a1 a2)) p:=fun H' h=>⟨a1,a2,rfl,h _ _ hm1,h _ _ hm2⟩
   by_cases h2:e.op=2
   ·refine ZN fd39 (by simp) ?_;show vc _ _ (stQ H (stepF p e)) _ _;delta c39 Zj Zi Zf Zd Zb Zm Zr Zq Zo Za Zh Zc Zg Zp Zk ZE ZD;obtain ⟨j,hj,hat,har,hfm⟩:=ZdD hp.nd (hown.2.1 h2)
    have hst:stepF p e=((Yy p.funs[j] []).2.1,(Yy p.funs[j] []).2.2):=by
     rw [ZcN,if_pos h2,hat,ZoJ,ZoH hj]
    rw [hst];have hsel:=fun (H:AH) (K:VE→AH→Prop)=>sel0_ok (f:=p.funs[j]) (hp.sz _ (Zn9 hj)) (hp.nm _ (Zn9 hj)) (H:=H) (K:=K)
    generalize Yy p.funs[j] []=S at *
    obtain ⟨sk,sb,sx⟩:=S;clear ih hsd hsd' hown hst hnv hat har
    (repeat' (first | (refine ZeD Zaa hzn hfm (by first | assumption | simp only [Zn8, *,if_false]) ?_) | (simp only [↓WV,↓WW,↓Wu,↓Ww,↓Zck,↓WX,↓Xe,↓Xf,↓Zak,↓XK,↓XL,↓Zax,↓XM,↓Zay,↓XN,↓We,↓JR,↓ZL,↓WA,↓Xk,↓Wf,↓JO,↓ZaT,↓JB,↓Jg,↓Zbp,↓YQ,↓Jm,↓ZaL,↓WD,↓XY,↓XE,vcNil,ZV,ptrV,boolV,Zou,ZoE,Zox,List.length_nil,ZoP,ZoQ,ZoR,ite_true,ite_false,ZnW,ZnY,Zn7,ne_eq,not_false_eq_true,true_and,ZoS,ZoD,decide_true,ZM,Zn8,AH.set_set,setAt,ZoT,List.all_nil,Bool.and_self,eq_self,Zot,ZoL,ZnZ,List.getElem?_cons_zero,List.getElem?_cons_succ,Zaf,Xt,ZbN,Zcm,WB,Zaq,Zo1,Zo0,↓Jh,Wv,↓Zbq,Zoc,ZdU,JC,ZaW,JD,ZdV,Jo,ZaX,ZdW,ZdX,undef,okV,Yg,Za6,Yw,Yc,ZeA,Ye,Zdi,Yt,YD,Ys,en_66, *]) | (refine ZK fun zr zh=>?_; have zg:=zh; (try simp only [Zn2] at zg); (try have zn_hm1:=ZnX hm1 zh); (try have zn_hm1:=ZnX hm1 zg.2); (try have zn_hm1:=ZnX hm1 zg.2.2)) | (refine hsel _ _ ?_)))
    rename_i r2 n2 n2' w2 r3 n3 n3' w3 r4 n4 n4';have g3:=n3'.2;have g4:=n4'.2.2;have g7:=zg.2.2.2;exact ZhK (e':=35) (sp:=0) (x:=sb) (by simp only [ZL,ZnW,if_true,if_false, *]<;>rfl) (by simp only [ZL,ZnW,if_true,if_false, *]<;>rfl) (by simp only [Zn8, *,if_true,if_false]<;>rfl) (Zoi (by repeat (first | exact Zn1 _ | refine Zn6 ?_ (by assumption))) _)
   ·obtain ⟨hop,hsplit⟩:=Zd5 hsd hnv h2;obtain ⟨q1,q2,q3⟩:=ZjI hsd;have q2:=q2 hnm;have qz:=Zfb p e;obtain ⟨E,hE⟩:∃ E,E=preE p e:=⟨_,rfl⟩
    have hst:stepF p e=if 0≤nonV p E.kids then
     (match E.kids[(nonV p E.kids).toNat]? with
      | some k=>(.mk E.op E.name (E.kids.set (nonV p E.kids).toNat (stepF p k).1),(stepF p k).2)
      | none=>(e,0))
     else redF p E:=by rw [ZcN,if_neg h2,← hE]; rfl
    rw [hst];rw [← hE] at hsplit q1 q2 q3 qz;have hEz:=E.sz_eq;have hEl:=YC E.kids;have hEN:E.kids.length≤1099511627776:=by omega
    have hEs:=(Xq.1 q1).2;rw [if_neg (by omega)] at hEs;have hEn:=(Ex.nmOk_iff.1 q2).2;have hisv:∀ (k:Ex) (hk:k.sz≤1099511627776) (hn:k.nmOk) (hs:k.sdF p []=0) (H':AH),SubH H H'→ReadF Tryz.prog 37 [.agg (tabE a1 a2),exV k] (boolV (k.isV p)) H':=fun k hk hn hs H' hb=>Zl5 hp.nd (k.sz + 1) k [] H' (by omega) hk hn hs (hv _ hb)
    have hidx:=fun (r2:Nat) (H':AH) (hb:SubH H H') hr (K:VE→AH→Prop)=>idxEx (l:=E.kids) (ex:=false) (f:=.func (.func 68) [] [ptrV r2 0]) (p:=fun k=>!k.isV p) (H:=H') (K:=K) hEN (fun i h=>isV68 (p:=p) (m1:=a1) (m2:=a2) hr (fun H2 h2=>hisv _ (by have:=Yl (Zn9 h); omega) (hEn _ (Zn9 h)) (hEs _ (Zn9 h)) H2 (hb.trans h2)))
    refine Zbh fd39 (by simp) ?_;show ACx _ _ (stQ H _) _ _;delta c39 Zj Zi Zf Zd Zb Zm Zr Zq Zo Za Zh Zc Zg Zp Zk ZE ZD;refine ZcL (l:=[_,_,_]) (K:=StInv H a1 a2 E) (fun _ _ _ h=>h) ?_ _ _ ?_
    ·rintro ⟨t,d⟩ H' ⟨r2,r3,r4,rfl,h2',h3',h4',h5',hsb,g4,k2,k3,⟨z1,z2,z3,k4⟩,⟨d24,d42⟩,⟨d34,d43⟩⟩;dsimp only at h2' h3' h4' h5';refine Ya rfl (fun _ _ _ h=>h) ?_;rcases hsplit with ⟨i,hi,hni,hiv⟩ | ⟨hni,hall,hop4,hEf,hEnn,f,a,r,hk,hcase⟩
     ·have hR:(if 0≤nonV p E.kids then
       (match E.kids[(nonV p E.kids).toNat]? with
        | some k=>(.mk E.op E.name (E.kids.set (nonV p E.kids).toNat (stepF p k).1),(stepF p k).2)
        | none=>(e,0))
       else redF p E)=(.mk E.op E.name (E.kids.set i (stepF p E.kids[i]).1),(stepF p E.kids[i]).2):=by
       rw [hni,if_pos (by omega),ZoJ,ZoH hi]
      rw [hR];have hki:=Yl (Zn9 hi);have hik:=fun H2 (h2:SubH H H2)=>ih E.kids[i] H2 (by omega) (by omega) (hEn _ (Zn9 hi)) (hEs _ (Zn9 hi)) hiv (hv _ h2)
      have hni':idxF (fun k=>!k.isV p) E.kids=(i:Int):=hni;have hcl:=cloneEx hEN (by omega);have hi0:(0:Int)≤(i:Int):=by omega
      have hil:(i:Int) < (E.kids.length:Int):=by omega
      have hdi:=XB hi;have hid:=hidx r2 H' hsb k2;generalize stepF p E.kids[i]=S at *
      obtain ⟨S1,S2⟩:=S;replace hE:=Zn0 hE;replace hst:=Zn0 hst;replace hni:=Zn0 hni;clear ih hR hidx hisv;clear q3
      (repeat' (first | (simp only [↓ZI,ZJ,ZV,ptrV,ZnW,ZnY,Zn7,setAt,ZnZ,Yg,Yw,Yj,Yc,Ye,Yt,WR,Yz,YD,Ys,Yn,ZkX,Zjn,en_69, *]) | (refine ZS mixed (fun _ _ _ _ e h=>⟨e.trans h.1,h.2⟩) _ (Zn1 _) ?_) | (refine And.intro (Zn5 (by assumption)) ?_) | (refine ZK fun zr zh=>?_; have zg:=zh; (try simp only [Zn2] at zg); (try have zn_k2:=ZnX k2 zh); (try have zn_k2:=ZnX k2 zg.2); (try have zn_k2:=ZnX k2 zg.2.2); (try have zn_k3:=ZnX k3 zh); (try have zn_k3:=ZnX k3 zg.2); (try have zn_k3:=ZnX k3 zg.2.2); (try have zn_k4:=ZnX k4 zh); (try have zn_k4:=ZnX k4 zg.2); (try have zn_k4:=ZnX k4 zg.2.2)) | (exact Zn1 _) | (refine Zn6 ?_ ?_) | (exact SubH.none (by assumption) (by assumption)) | (refine hid _ ?_) | (refine (hik _ ?_).use ?_) | (with_reducible refine And.intro ?_ ?_)))
      ·have x10:=zg;have d4a:=ZnX k4 zg;generalize zr=r10 at *
       refine (hcl _).use (fun v H2 ho=>?_);rcases ho with ⟨_,h00,_⟩ | ⟨g,c,sp,rfl,hg,rfl,hl1,hl2,hl3,_⟩
       ·omega
       have hgg:=hg;simp only [Zn2] at hgg;have d4g:=ZnX k4 hgg.2;have yg:=hsb.none hgg.2;have y10:=hsb.none x10;have hb4:=Zn0 k4;clear hik hcl hid zh k2 k3
       (repeat' (first | (simp only [↓ZI,ZJ,ptrV,ZnW,ZnY,Zn7,Zof,ZX,fillV,setAt,ZnZ,Yj,Yt,Yz,YD,WJ,Ys,Yn, *]) | (refine And.intro (Zn5 (by assumption)) ?_) | (refine ZK fun zr zh=>?_; have zg:=zh; (try simp only [Zn2] at zg); (try have zn_k4:=ZnX k4 zh); (try have zn_k4:=ZnX k4 zg.2); (try have zn_k4:=ZnX k4 zg.2.2)) | (exact Zn1 _) | (refine Zn6 ?_ ?_) | (with_reducible refine And.intro ?_ ?_)))
       ·omega
       ·have y12:=hsb.none zg.2.2;exact ZjJ (e':=35) (e2:=35) (r:=r4) (g:=g) (by simp only [ZL,ZnW,if_false, *]<;>rfl) (by simp only [ZL,ZnW,if_true,if_false, *]<;>rfl) (Zn4 _ _ _) (by rw [Zoa _ _ d4g.2]; exact Zn4 _ _ _) (ZdE hi) (by rw [List.length_set]) hl3 (by repeat (first | exact hsb | refine Zn6 ?_ (by assumption))) yg
      ·rename_i r10 m10 m10' w2 w3 w4;have x10:=m10';have x12:=zg.2;have d4a:=w4;have d4b:=ZnX k4 x12;have dab:=zg.1;generalize zr=r12 at *
       refine (hcl _).use (fun v H2 ho=>?_);rcases ho with ⟨_,h00,_⟩ | ⟨g,c,sp,rfl,hg,rfl,hl1,hl2,hl3,_⟩
       ·omega
       have hgg:=hg;simp only [Zn2] at hgg;have d4g:=ZnX k4 hgg.2.2;have yg:=hsb.none hgg.2.2;have y10:=hsb.none x10;have y12:=hsb.none x12;have hb4:=Zn0 k4;clear hik hcl hid zh zg k2 k3 m10 m10'
       (repeat' (first | (simp only [↓ZI,ZJ,ptrV,ZnW,ZnY,Zn7,Zof,ZX,fillV,setAt,ZnZ,Yj,Yt,Yz,YD,WJ,Yn, *]) | (exact Zn1 _) | (refine Zn6 ?_ ?_) | (with_reducible refine And.intro ?_ ?_)))
       ·omega
       ·exact ZjJ (e':=35) (e2:=35) (r:=r4) (g:=g) (by simp only [ZL,ZnW,if_false, *]<;>rfl) (by simp only [ZL,ZnW,if_true,if_false, *]<;>rfl) (Zn4 _ _ _) (by rw [Zoa _ _ d4g.2]; exact Zn4 _ _ _) (ZdE hi) (by rw [List.length_set]) hl3 (by repeat (first | exact hsb | refine Zn6 ?_ (by assumption))) yg
      ·have x10:=zg;have d4a:=ZnX k4 zg;generalize zr=r10 at *
       refine (hcl _).use (fun v H2 ho=>?_);rcases ho with ⟨_,h00,_⟩ | ⟨g,c,sp,rfl,hg,rfl,hl1,hl2,hl3,_⟩
       ·omega
       have hgg:=hg;simp only [Zn2] at hgg;have d4g:=ZnX k4 hgg.2;have yg:=hsb.none hgg.2;have y10:=hsb.none x10;have hb4:=Zn0 k4;clear hik hcl hid zh k2 k3
       (repeat' (first | (simp only [↓ZI,ZJ,ptrV,ZnW,ZnY,Zn7,Zof,ZX,fillV,setAt,ZnZ,Yj,Yt,Yz,YD,WJ,Ys,Yn, *]) | (refine And.intro (Zn5 (by assumption)) ?_) | (refine ZK fun zr zh=>?_; have zg:=zh; (try simp only [Zn2] at zg); (try have zn_k4:=ZnX k4 zh); (try have zn_k4:=ZnX k4 zg.2); (try have zn_k4:=ZnX k4 zg.2.2)) | (exact Zn1 _) | (refine Zn6 ?_ ?_) | (with_reducible refine And.intro ?_ ?_)))
       ·omega
       ·have y12:=hsb.none zg.2.2;exact ZjJ (e':=35) (e2:=35) (r:=r4) (g:=g) (by simp only [ZL,ZnW,if_false, *]<;>rfl) (by simp only [ZL,ZnW,if_true,if_false, *]<;>rfl) (Zn4 _ _ _) (by rw [Zoa _ _ d4g.2]; exact Zn4 _ _ _) (ZdE hi) (by rw [List.length_set]) hl3 (by repeat (first | exact hsb | refine Zn6 ?_ (by assumption))) yg
      ·rename_i r10 m10 m10' w2 w3 w4;have x10:=m10';have x12:=zg.2;have d4a:=w4;have d4b:=ZnX k4 x12;have dab:=zg.1;generalize zr=r12 at *
       refine (hcl _).use (fun v H2 ho=>?_);rcases ho with ⟨_,h00,_⟩ | ⟨g,c,sp,rfl,hg,rfl,hl1,hl2,hl3,_⟩
       ·omega
       have hgg:=hg;simp only [Zn2] at hgg;have d4g:=ZnX k4 hgg.2.2;have yg:=hsb.none hgg.2.2;have y10:=hsb.none x10;have y12:=hsb.none x12;have hb4:=Zn0 k4;clear hik hcl hid zh zg k2 k3 m10 m10'
       (repeat' (first | (simp only [↓ZI,ZJ,ptrV,ZnW,ZnY,Zn7,Zof,ZX,fillV,setAt,ZnZ,Yj,Yt,Yz,YD,WJ,Yn, *]) | (exact Zn1 _) | (refine Zn6 ?_ ?_) | (with_reducible refine And.intro ?_ ?_)))
       ·omega
       ·exact ZjJ (e':=35) (e2:=35) (r:=r4) (g:=g) (by simp only [ZL,ZnW,if_false, *]<;>rfl) (by simp only [ZL,ZnW,if_true,if_false, *]<;>rfl) (Zn4 _ _ _) (by rw [Zoa _ _ d4g.2]; exact Zn4 _ _ _) (ZdE hi) (by rw [List.length_set]) hl3 (by repeat (first | exact hsb | refine Zn6 ?_ (by assumption))) yg
     ·have hR:(if 0≤nonV p E.kids then
       (match E.kids[(nonV p E.kids).toNat]? with
        | some k=>(.mk E.op E.name (E.kids.set (nonV p E.kids).toNat (stepF p k).1),(stepF p k).2)
        | none=>(e,0))
       else redF p E)=redF p E:=by rw [hni,if_neg (by omega)]
      rw [hR];clear hR hst;have hid:∀ K:VE→AH→Prop,K (.ret (iV (-1))) H'→Yh Tryz.prog 67 [encS exE E.kids,.func (.func 68) [] [ptrV r2 0]] H' K:=fun K hK=>hidx r2 H' hsb k2 K (by rw [show idxF (fun k=>!k.isV p) E.kids=-1 from hni]; exact hK)
      have hEo:E.op=4:=by rw [q3,hop4]
      have hfs:=hEs f (by rw [hk]; simp);have hfn:=hEn f (by rw [hk]; simp);have hzf:f.name.size≤maxLen:=by have:=(Ex.nmOk_iff.1 hfn).1; unfold maxLen; omega
      have hfo:=XR.1 (Xq.1 hfs).1;have ek:encS exE E.kids=.slice false (r.length + 2) (iV f.op :: sV f.name :: encS exE f.kids :: iV a.op :: sV a.name :: encS exE a.kids :: encC exE r):=by rw [hk,encS,Yr,Yr,XC,XC]; rfl
      have hmz:∀ x∈E.kids,x.sz≤1099511627776:=fun x hx=>by have:=Yl hx; omega
      have hrz:r.length + 2≤1099511627776:=by rw [hk] at hEN; simpa using hEN
      have hl0:(0:Int) < ((r.length + 2:Nat):Int):=by omega
      have hl1:(0:Int) < ((r.length + 2 - 1:Nat):Int):=by omega
      have hred:redF p E=if f.op=5 then ((Xl ((f.kids.headD zEx).put [(f.name,a)]) r),0)
       else if f.op=3 then (E,421)
       else (match p.funs[(atFu p.funs f.name).toNat]? with
        | some g=>(Xl (Yy g ((a :: r).take g.arity.toNat)).2.1 ((a :: r).drop g.arity.toNat),(Yy g ((a :: r).take g.arity.toNat)).2.2)
        | none=>(E,0)):=by unfold redF; rw [hk]; rfl
      rw [hred];replace hE:=Zn0 hE;clear hred ih hidx hisv hEs hEn hall hEl hEz q1 q2 q3 qz hsd hsd' hown hnv hkl z hEf hnm hnm';rcases hcase with ⟨hf5,bd,hbd⟩ | hf3 | ⟨hf2,hfp,hfl⟩
      ·rw [if_pos hf5,hbd];have hbz:bd.sz≤1099511627776:=by have h1:=hmz f (by rw [hk]; simp); have h2:=f.sz_eq; rw [hbd,exsSz] at h2; omega
       have ekf:encS exE f.kids=.slice false 1 [iV bd.op,sV bd.name,encS exE bd.kids]:=by rw [hbd,encS,Yr,XC]; rfl
       have hput:∀ (H:AH) (K:VE→AH→Prop),K (.ret (exV (bd.put [(f.name,a)]))) H→Yh Tryz.prog 65 [.agg [iV bd.op,sV bd.name,encS exE bd.kids],.slice true 1 [sV f.name,iV a.op,sV a.name,encS exE a.kids]] H K:=fun H K hK =>
        YM (Zod (Zoq _ _) (Zod (GhV.imm H) (GhL.nil _))) ((Zl4 (bd.sz + 1) bd [(f.name,a)] (by omega) hbz (by simp)).use hK)
       have happ:=ZgJ false (bd.put [(f.name,a)]) r (by omega);show vc _ _ (stQ H (Xl (bd.put [(f.name,a)]) r,0)) _ _;generalize bd.put [(f.name,a)]=X at *
       generalize hY:Xl X r=Y at *
       clear hfo hmz hbd hY;rw [ek] at hid;rw [hEo,ek,hf5,ekf] at k3;rw [hf5,ekf] at hid;replace hEo:=Zn0 hEo;replace ek:=Zn0 ek;replace ekf:=Zn0 ekf;have hw1:((1:Nat):Int)=1:=rfl
       (repeat' (first | (simp only [↓ZI,ZJ,ptrV,ZnW,ZnY,Zn7,Zor,Zof,ZX,fillV,setAt,ZnZ,Zom,Zok,ZoA,ZQ,ZX,ZoI,ZoK,Int.reduceToNat,YB,ZoC,Zog,YV,idxV,idxOk,imp_self,Yg,Yw,Yj,Yc,Ye,Yt,Yz,YD,Ys,WH,Zmj,Yn,Jd,ZkX,ZnM,en_70, *]) | (refine ZS mixed (fun _ _ _ _ e h=>⟨e.trans h.1,h.2⟩) _ (Zn1 _) ?_) | (refine And.intro (Zn5 (by assumption)) ?_) | (refine ZK fun zr zh=>?_; have zg:=zh; (try simp only [Zn2] at zg); (try have zn_k2:=ZnX k2 zh); (try have zn_k2:=ZnX k2 zg.2); (try have zn_k2:=ZnX k2 zg.2.2); (try have zn_k3:=ZnX k3 zh); (try have zn_k3:=ZnX k3 zg.2); (try have zn_k3:=ZnX k3 zg.2.2); (try have zn_k4:=ZnX k4 zh); (try have zn_k4:=ZnX k4 zg.2); (try have zn_k4:=ZnX k4 zg.2.2)) | (exact Zn1 _) | (refine Zn3 (happ) ?_) | (refine hput _ _ ?_) | (refine hid _ ?_) | (with_reducible refine And.intro ?_ ?_)))
       all_goals have y13:=hsb.none zg
       all_goals first
        | omega
        | exact fun h=>trivial
        | (refine ZhK (e':=35) (sp:=0) (by simp only [ZL,ZnW,if_false, *]<;>rfl) (by simp only [ZL,ZnW,if_true,if_false, *]<;>rfl) (Zn4 _ _ _) ?_
           exact Zoi (by repeat (first | exact hsb | refine Zn6 ?_ (by assumption))) _)
        | trace_state
      ·rw [if_neg (by omega),if_pos hf3];clear hfo hmz;rw [ek] at hid;rw [hEo,ek,hf3] at k3;have q7:VV.agg [iV 4,sV E.name,.slice false (r.length + 2) (iV 3 :: sV f.name :: encS exE f.kids :: iV a.op :: sV a.name :: encS exE a.kids :: encC exE r)]=exV E:=by rw [← hf3,← ek,← hEo]
       replace hEo:=Zn0 hEo;replace ek:=Zn0 ek;replace q7:=Zn0 q7;rw [hf3] at hid;clear hEnn
       (repeat' (first | (simp only [↓ZI,ZJ,ptrV,ZnW,ZnY,Zn7,Zor,Zof,setAt,ZnZ,Zoh,Zok,ZoA,ZoI,ZoK,Int.reduceToNat,YB,ZoC,Zog,YV,idxV,idxOk,imp_self,Yg,Yj,Yc,Yt,Yz,YD,Ys,Yn,ZkX, *]) | (refine ZS mixed (fun _ _ _ _ e h=>⟨e.trans h.1,h.2⟩) _ (Zn1 _) ?_) | (refine And.intro (Zn5 (by assumption)) ?_) | (refine ZK fun zr zh=>?_; have zg:=zh; (try simp only [Zn2] at zg); (try have zn_k2:=ZnX k2 zh); (try have zn_k2:=ZnX k2 zg.2); (try have zn_k2:=ZnX k2 zg.2.2); (try have zn_k3:=ZnX k3 zh); (try have zn_k3:=ZnX k3 zg.2); (try have zn_k3:=ZnX k3 zg.2.2); (try have zn_k4:=ZnX k4 zh); (try have zn_k4:=ZnX k4 zg.2); (try have zn_k4:=ZnX k4 zg.2.2)) | (refine hid _ ?_)))
       have y13:=hsb.none zg;refine ZhK (e':=35) (sp:=0) (by simp only [ZL,ZnW,if_false, *]<;>rfl) (by simp only [ZL,ZnW,if_true,if_false, *]<;>rfl) (Zn4 _ _ _) ?_;rw [q7.out];exact Zoi (by repeat (first | exact hsb | refine Zn6 ?_ (by assumption))) _
      ·rw [if_neg (by omega),if_neg (by omega)];obtain ⟨j,hj,hat,har,hfm⟩:=ZdD hp.nd (hfo.2.1 hf2);rw [hat,ZoJ,ZoH hj];rw [har] at hfp hfl;obtain ⟨ka,hka⟩:∃ ka:Nat,p.funs[j].arity=ka:=⟨p.funs[j].arity.toNat,by omega⟩
       have hkl:ka≤(a :: r).length:=by rw [Zox]; omega
       have hvs:∀ x∈(a :: r).take ka,x.sz≤1099511627776:=fun x hx=>hmz x (by rw [hk]; exact ZoY _ (List.mem_of_mem_take hx))
       have hseq:=Zir p.funs[j] ((a :: r).take ka) (hp.sz _ (Zn9 hj)) (by rw [ZoF,Zox]; omega) hvs (hp.nm _ (Zn9 hj));have eal:encC exE (a :: r)=iV a.op :: sV a.name :: encS exE a.kids :: encC exE r:=by rw [Yr,XC]; rfl
       have hsel:∀ (H:AH) (K:VE→AH→Prop),K (.ret (selV (Yy p.funs[j] ((a :: r).take ka)))) H→Yh Tryz.prog 66 [.agg [sV p.funs[j].name,iV ka,clsV p.funs[j].cls],.slice false ka (iV a.op :: sV a.name :: encS exE a.kids :: encC exE r)] H K:=fun H K hK=>by
        rw [← eal];have e:encC exE (a :: r)=encC exE ((a :: r).take ka) ++ encC exE ((a :: r).drop ka):=by rw [← Yo,ZoU]
        rw [e];refine YM (Zod (Zoq _ _) (Zod (GhV.trunc _ _ _ _ _) (GhL.nil _))) ?_;have el:((a :: r).take ka).length=ka:=by rw [ZoF]; omega
        rw [show VV.slice false ka (encC exE ((a :: r).take ka))=exsV ((a :: r).take ka) from by rw [exsV,encS,el],← hka];exact hseq.use hK
       show vc _ _ (stQ H (Xl (Yy p.funs[j] ((a :: r).take p.funs[j].arity.toNat)).2.1 ((a :: r).drop p.funs[j].arity.toNat),(Yy p.funs[j] ((a :: r).take p.funs[j].arity.toNat)).2.2)) _ _;rw [show p.funs[j].arity.toNat=ka by omega];generalize Yy p.funs[j] ((a :: r).take ka)=S at *
       obtain ⟨sk,sb,sx⟩:=S;have happ:=ZgJ false sb ((a :: r).drop ka) (by rw [List.length_drop,Zox]; omega);have hdl:((a :: r).drop ka).length=r.length + 2 - 1 - ka:=by rw [List.length_drop,Zox]; omega
       have hdc:encC exE ((a :: r).drop ka)=(iV a.op :: sV a.name :: encS exE a.kids :: encC exE r).drop (ka * 3):=by
        rw [← eal]
        have:=Zfr (enc:=exE) (k:=3) Wx (a :: r) ka
        have h2:encC exE (a :: r)=encC exE ((a :: r).take ka) ++ encC exE ((a :: r).drop ka):=by rw [← Yo,ZoU]
        rw [h2,List.drop_left' (by rw [Wb Wx,ZoF]; congr 1; omega)]
       rw [hdl,hdc] at happ;generalize Xl sb ((a :: r).drop ka)=Y at *
       show vc _ _ (stQ H (Y,sx)) _ _;rw [hka] at hfm;rw [ek] at hid;rw [hEo,ek,hf2] at k3;rw [hf2] at hid;replace hEo:=Zn0 hEo;replace ek:=Zn0 ek;have hm1':=hsb _ _ hm1;have hka0:(0:Int)≤(ka:Int):=by omega
       have hkal:ka≤r.length + 2 - 1:=by rw [Zox] at hkl; omega
       clear hfo hmz hseq hvs hdl hdc hkl hfp hfl har hat hka hp hk
       (repeat' (first | (refine ZeD Zaa hzf hfm (by first | assumption | simp only [Zn8, *,if_false]) ?_) | (simp only [↓JH,↓WV,↓WW,↓Wu,↓Jf,↓XA,↓Zck,↓ZbJ,↓WX,↓Xe,↓Xf,↓Zcl,↓XK,↓XL,↓Zax,↓XM,↓Zay,↓XN,↓We,↓JR,↓ZL,↓WA,↓Xk,↓Wf,↓JO,↓ZaT,↓JB,↓Jg,↓JS,↓Zi9,↓YQ,↓Wa,↓Jm,↓ZaL,↓WD,↓XY,↓Zh7,↓XE,vcNil,ZV,ptrV,boolV,Zou,ZoE,Zox,List.length_nil,ite_true,ite_false,ZnW,ZnY,Zn7,Zor,Zof,ne_eq,not_false_eq_true,not_true_eq_false,true_and,and_true,List.drop_succ_cons,ZoB,ZoS,ZoD,decide_false,Bool.false_and,reduceCtorEq,ZoJ,↓Zao,↓Zap,↓Zg7,↓Zmw,Zn8,AH.set_set,setAt,ZoT,List.all_nil,Bool.and_self,eq_self,Zot,ZoL,ZnZ,and_self,List.getElem?_cons_zero,List.getElem?_cons_succ,Zaf,Xt,ZbN,Zcm,WB,Zaq,Zo1,Zo0,↓Jh,Wv,Zoc,ZdU,JC,Zk0,ZaW,ZfV,Zcn,JD,ZdV,Jo,ZaX,ZdW,ZdX,↓ZeQ,↓ZlW,↓s_plCutN,↓Zjz,Zoh,Zok,ZoA,okV,ZoJ,ZoI,ZoK,Int.reduceToNat,YB,ZoC,Zog,YV,idxV,idxOk,imp_self,Yg,Za6,Yw,Yj,JK,Yc,ZeA,Ye,Zdi,Yt,Yz,YD,Ys,Yn,en_66,ZkX,en_70, *]) | (refine ZS mixed (fun _ _ _ _ e h=>⟨e.trans h.1,h.2⟩) _ (Zn1 _) ?_) | (refine And.intro (Zn5 (by assumption)) ?_) | (refine ZK fun zr zh=>?_; have zg:=zh; (try simp only [Zn2] at zg); (try have zn_hm1':=ZnX hm1' zh); (try have zn_hm1':=ZnX hm1' zg.2); (try have zn_hm1':=ZnX hm1' zg.2.2); (try have zn_k2:=ZnX k2 zh); (try have zn_k2:=ZnX k2 zg.2); (try have zn_k2:=ZnX k2 zg.2.2); (try have zn_k3:=ZnX k3 zh); (try have zn_k3:=ZnX k3 zg.2); (try have zn_k3:=ZnX k3 zg.2.2); (try have zn_k4:=ZnX k4 zh); (try have zn_k4:=ZnX k4 zg.2); (try have zn_k4:=ZnX k4 zg.2.2)) | (exact Zn1 _) | (refine Zn3 (happ) ?_) | (refine hsel _ _ ?_) | (refine hid _ ?_) | (with_reducible refine And.intro ?_ ?_)))
       all_goals first
        | exact fun h=>trivial
        | exact Nat.zero_le _
        | (rename_i r13 m13 m13' w1 w2 w3 w4
           have y13:=hsb.none m13';have y17:=hsb.none zg.2;refine ZhK (e':=35) (sp:=0) (by simp only [ZL,ZnW,if_false, *]<;>rfl) (by simp only [ZL,ZnW,if_true,if_false, *]<;>rfl) (Zn4 _ _ _) ?_;exact Zoi (by repeat (first | exact hsb | refine Zn6 ?_ (by assumption))) _)
        | trace_state
    ·simp only [vcs];rcases hop with h3 | h4
     ·have hEe:E=e:=by rw [hE]; unfold preE; rw [if_neg (by omega)]
      clear ih hsd hsd' hown hst hnv;replace hE:=Zn0 hE;replace hEe:=Zn0 hEe
      (repeat' (first | (simp only [↓ZI,ZJ,ptrV,ZnW,ZnY,ZU,ZM,ZnZ,undef,Zoh,Yg,Yc,Ys,Zci, *]) | (refine ZS mixed (fun _ _ _ _ e h=>⟨e.trans h.1,h.2⟩) _ (Zn1 _) ?_) | (refine ZK fun zr zh=>?_; have zg:=zh; (try simp only [Zn2] at zg); (try have zn_hm1:=ZnX hm1 zh); (try have zn_hm1:=ZnX hm1 zg.2); (try have zn_hm1:=ZnX hm1 zg.2.2))))
      rename_i r2 n2 n2' w2 r3 n3 n3' w3;have g3:=n3'.2;have g4:=zg.2.2;exact ⟨r2,r3,zr,rfl,(by simp only [ZL,ZnW,if_true,if_false, *]<;>rfl),(by simp only [ZL,ZnW,if_true,if_false, *]<;>rfl),(by simp only [ZL,ZnW,if_true,if_false, *]<;>rfl),(by simp only [ZL,ZnW,if_true,if_false, *]<;>rfl),(by repeat (first | exact Zn1 _ | refine Zn6 ?_ (by assumption))),g4,(by simp only [Zn8, *,if_true,if_false]<;>rfl),by rw [Zoa _ _ zg.1.2,Zn4,hEe.out,h3],⟨_,_,_,(by simp only [Zn8, *,if_true,if_false]<;>rfl)⟩,⟨zg.2.1.2,zg.2.1.1⟩,⟨zg.1.2,zg.1.1⟩⟩
     ·obtain ⟨hen,k,k2,r,hek⟩:=Zdy hsd h4;have hks:=hsd'.2 k (by rw [hek]; simp);rw [if_neg (by omega)] at hks;have hkn:=hnm'.2 k (by rw [hek]; simp);have hkz:k.sz≤1099511627776:=by have:=Yl (l:=e.kids) (e:=k) (by rw [hek]; simp); omega
      have hkv:=hisv k hkz hkn hks;have hl0:(0:Int) < ((r.length + 2:Nat):Int):=by omega
      have ek:encS exE e.kids=.slice false (r.length + 2) (iV k.op :: sV k.name :: encS exE k.kids :: encC exE (k2 :: r)):=by rw [hek,encS,Yr,XC]; rfl
      have q5:VV.agg [iV 4,sV e.name,.slice false (r.length + 2) (iV k.op :: sV k.name :: encS exE k.kids :: encC exE (k2 :: r))]=exV e:=by rw [← ek]; show _=VV.agg [iV e.op,sV e.name,encS exE e.kids]; rw [h4]
      have hfl:=ZmS hsd hs;rw [← q5] at hfl;have hhd:headV p e=k.isV p:=by unfold headV; rw [hek]
      cases hkb:k.isV p with
      | true =>
        have hEe:E=e.flat:=by rw [hE]; unfold preE; rw [if_pos ⟨h4,by rw [hhd,hkb]⟩]
        rw [← hEe] at hfl;rw [hkb] at hkv;clear ih hsd hsd' hown hst hnv hkb hhd hek hen q5;replace hE:=Zn0 hE;replace hEe:=Zn0 hEe
        (repeat' (first | (simp only [↓ZI,ZJ,ptrV,boolV,ZnW,ZnY,Zn7,ZM,setAt,ZnZ,undef,Zoh,Zok,ZoI,ZoK,Yg,Yj,Yc,Yt,WR,Yz,YD,Ys,Yn,Zci,en_64, *]) | (refine ZS mixed (fun _ _ _ _ e h=>⟨e.trans h.1,h.2⟩) _ (Zn1 _) ?_) | (refine ZK fun zr zh=>?_; have zg:=zh; (try simp only [Zn2] at zg); (try have zn_hm1:=ZnX hm1 zh); (try have zn_hm1:=ZnX hm1 zg.2); (try have zn_hm1:=ZnX hm1 zg.2.2)) | (exact Zn1 _) | (refine Zn6 ?_ ?_) | (refine Zn3 (hfl) ?_) | (refine (hkv _ ?_).use ?_)))
        rename_i r2 n2 n2' w2 r3 n3 n3' w3;have g3:=n3'.2;have g4:=zg.2.2;exact ⟨r2,r3,zr,rfl,(by simp only [ZL,ZnW,if_true,if_false, *]<;>rfl),(by simp only [ZL,ZnW,if_true,if_false, *]<;>rfl),(by simp only [ZL,ZnW,if_true,if_false, *]<;>rfl),(by simp only [ZL,ZnW,if_true,if_false, *]<;>rfl),(by repeat (first | exact Zn1 _ | refine Zn6 ?_ (by assumption))),g4,(by simp only [Zn8, *,if_true,if_false]<;>rfl),(by simp only [Zn8, *,if_true,if_false]<;>rfl),⟨_,_,_,(by simp only [Zn8, *,if_true,if_false]<;>rfl)⟩,⟨zg.2.1.2,zg.2.1.1⟩,⟨zg.1.2,zg.1.1⟩⟩
      | false =>
        have hEe:E=e:=by rw [hE]; unfold preE; rw [if_neg (by rw [hhd,hkb]; simp)]
        rw [hkb] at hkv;replace hkb:=Zn0 hkb;clear ih hsd hsd' hown hst hnv hhd hek hen q5;replace hE:=Zn0 hE;replace hEe:=Zn0 hEe
        (repeat' (first | (simp only [↓ZI,ZJ,ptrV,boolV,ZnW,ZnY,ZM,ZnZ,undef,Zoh,Zok,ZoI,ZoK,Yg,Yj,Yc,Yt,WR,Yz,Ys,Yn,Zci, *]) | (refine ZS mixed (fun _ _ _ _ e h=>⟨e.trans h.1,h.2⟩) _ (Zn1 _) ?_) | (refine ZK fun zr zh=>?_; have zg:=zh; (try simp only [Zn2] at zg); (try have zn_hm1:=ZnX hm1 zh); (try have zn_hm1:=ZnX hm1 zg.2); (try have zn_hm1:=ZnX hm1 zg.2.2)) | (exact Zn1 _) | (refine Zn6 ?_ ?_) | (refine (hkv _ ?_).use ?_)))
        rename_i r2 n2 n2' w2 r3 n3 n3' w3;have g3:=n3'.2;have g4:=zg.2.2;exact ⟨r2,r3,zr,rfl,(by simp only [ZL,ZnW,if_true,if_false, *]<;>rfl),(by simp only [ZL,ZnW,if_true,if_false, *]<;>rfl),(by simp only [ZL,ZnW,if_true,if_false, *]<;>rfl),(by simp only [ZL,ZnW,if_true,if_false, *]<;>rfl),(by repeat (first | exact Zn1 _ | refine Zn6 ?_ (by assumption))),g4,(by simp only [Zn8, *,if_true,if_false]<;>rfl),by rw [Zoa _ _ zg.1.2,Zn4,hEe.out,h4,ek],⟨_,_,_,(by simp only [Zn8, *,if_true,if_false]<;>rfl)⟩,⟨zg.2.1.2,zg.2.1.1⟩,⟨zg.1.2,zg.1.1⟩⟩
end Go.PV.YtglpmlbbaedbiaaGreat
end
section
open Int renaming toNat_natCast→ZoJ
open List renaming set_cons_succ→Zo0,getElem?_eq_getElem→ZoH,getElem_mem→Zn9,mem_cons_of_mem→ZoY
open Nat renaming mul_le_mul_right→ZoZ,le_refl→Zoc
namespace Go.PV.YtglpmlbbaedbiaaGreat
open Go Go.Proofs
theorem Zis {x:Ex}:∀ {l:List Ex} {i:Nat} (h:i < l.length),exsSz (l.set i x) + l[i].sz=exsSz l + x.sz
 | k :: l,0,h=>by simp [exsSz]; omega
 | k :: l,i + 1,h=>by
   have:=Zis (x:=x) (l:=l) (i:=i) (by simpa using h)
   simp only [Zo0,exsSz,List.getElem_cons_succ];omega
structure BdOk (p:Pr) (f:Fu):Prop where
 body:∀ c∈f.cls,c.body.sdF p (ZT c.pats)=0∧c.body.sz≤1000∧c.body.nmOk
theorem ZeW {p:Pr} (h:Ji p=0) (hp:PrOk p):∀ f∈p.funs,BdOk p f:=fun f hf=>⟨fun c hc=>by
 obtain ⟨_,_,_,h4⟩:=ZgE h;obtain ⟨h5,h6,h7,h8,h9,h10⟩:=Zlh (ZdA h4 f hf c hc);rw [ZbV h6] at h10;exact ⟨sh_sd _ _ _ h10 (fun n hn=>List.mem_reverse.1 hn),h8,((hp.cls f hf).2 c hc).bnames⟩⟩
def ClQ (p:Pr) (M:Nat) (e:Ex):Prop:=e.sdF p []=0∧e.nmOk∧e.sz≤M
theorem ClQ.kid {p:Pr} {M:Nat} {e:Ex} (h:ClQ p M e) (h5:¬ e.op=5) {k:Ex} (hk:k∈e.kids):ClQ p M k:=by
 have h1:=(Xq.1 h.1).2 k hk;rw [if_neg h5] at h1;have h2:=Yl hk;have h3:=e.sz_eq;have h4:=h.2.2;exact ⟨h1,(Ex.nmOk_iff.1 h.2.1).2 k hk,by omega⟩
theorem Zit {p:Pr} {f:Fu} (hb:BdOk p f) {vs:List Ex} {M:Nat} (hvs:∀ v∈vs,ClQ p M v) (h:(Yy f vs).2.2=0):ClQ p (1000 * (1 + M)) (Yy f vs).2.1:=by
 obtain ⟨c,hc,h1,h2⟩:=ZiQ h;rw [h2];obtain ⟨b1,b2,b3⟩:=hb.body c hc;have hall:=ZbU (Q:=ClQ p M) (fun e he h3 k hk=>he.kid (by omega) hk) c.pats vs [] hvs (by simp);have hnm:=ZaF c.pats vs [] h1;generalize (Yu c.pats vs []).1=l at *
 refine ⟨sd_put _ _ _ [] b1 (fun n hn=>.inr (by rw [hnm]; simpa using hn)) (fun x hx=>(hall x hx).1),nm_put _ _ b3 (fun x hx=>(hall x hx).2.1),?_⟩
 have:=sz_put (M:=M) c.body l (fun x hx=>(hall x hx).2.2)
 have h3:=ZoZ (1 + M) b2;omega
theorem Ziu {p:Pr} {X:Ex} {r:List Ex} {M N:Nat} (hX:ClQ p M X) (hr:∀ x∈r,x.sdF p []=0∧x.nmOk) (hN:exsSz r≤N):ClQ p (1 + M + N) (Xl X r):=by
 unfold Xl;split
 ·exact ⟨hX.1,hX.2.1,by have:=hX.2.2; omega⟩
 ·rename_i h0;have hrl:0 < r.length:=by omega
  refine ⟨Xq.2 ⟨XR.2 ⟨?_,by simp [Ex.op],by simp [Ex.op],by simp [Ex.op]⟩,?_⟩,Ex.nmOk_iff.2 ⟨Nat.zero_le 1099511627776,?_⟩,?_⟩
  ·change formB 4 ((X :: r).length:Nat) (!decide (noNm=noNm))=true
   simp [formB]; omega
  ·intro k hk
   change Ex.sdF p k (if (4:Int)=5 then [] ++ [noNm] else [])=0
   rw [if_neg (by decide)];rcases List.mem_cons.1 hk with rfl | hk
   ·exact hX.1
   ·exact (hr k hk).1
  ·intro k hk;rcases List.mem_cons.1 hk with rfl | hk
   ·exact hX.2.1
   ·exact (hr k hk).2
  ·rw [Ex.sz_eq]
   change 1 + exsSz (X :: r)≤_
   rw [exsSz]
   have:=hX.2.2
   omega
theorem ZdF:∀ (l:List Ex) (i:Nat),exsSz (l.drop i)≤exsSz l
 | [],i=>by simp [exsSz]
 | k :: l,0=>by simp
 | k :: l,i + 1=>by have:=ZdF l i; simp only [List.drop_succ_cons,exsSz]; omega
theorem Zb9 {p:Pr} (hb:∀ f∈p.funs,BdOk p f) {M:Nat}:∀ (n:Nat) (e:Ex),e.sz < n→ClQ p M e→e.isV p=false→(stepF p e).2=0→ClQ p (e.sz + 1 + (1000 + M) * (1 + M)) (stepF p e).1:=by
 intro n
 induction n with
 | zero=>intro e h0; omega
 | succ n ih =>
   intro e h0 he hv hx;have hA:(1000 + M) * (1 + M)=1000 * (1 + M) + M * (1 + M):=Nat.add_mul _ _ _;have hMM:M≤M * (1 + M):=Nat.le_mul_of_pos_right _ (by omega);have hM1:M≤1000 * (1 + M):=by omega
   have hw:∀ {N:Nat} {x:Ex},ClQ p N x→N≤e.sz + 1 + (1000 + M) * (1 + M)→ClQ p (e.sz + 1 + (1000 + M) * (1 + M)) x:=fun h h'=>⟨h.1,h.2.1,by have:=h.2.2; omega⟩
   have hown:=XR.1 (Xq.1 he.1).1;rw [ZcN] at hx ⊢;by_cases h2:e.op=2
   ·rw [if_pos h2] at hx ⊢;cases hf:p.funs[(atFu p.funs e.name).toNat]? with
    | none=>exact hw he (by omega)
    | some f =>
      rw [hf] at hx;exact hw (Zit (hb f (List.mem_of_getElem? hf)) (vs:=[]) (M:=M) (by simp) hx) (by omega)
   ·rw [if_neg h2] at hx ⊢;obtain ⟨hop,hsp⟩:=Zd5 he.1 hv h2;obtain ⟨q1,q2,q3⟩:=ZjI (p:=p) he.1;have qz:=Zfb p e;have hez:=he.2.2;have hE:ClQ p M (preE p e):=⟨q1,q2 he.2.1,by omega⟩
    generalize preE p e=E at *
    have hEz:=E.sz_eq;have hE5:¬ E.op=5:=by omega
    have hkq:∀ k∈E.kids,ClQ p M k:=fun k hk=>hE.kid hE5 hk
    rcases hsp with ⟨i,hi,hni,hiv⟩ | ⟨hni,hall,hop4,hEf,hEnn,f,a,r,hk,hcase⟩
    ·rw [hni,if_pos (by omega),ZoJ,ZoH hi] at hx ⊢;have hkm:=Zn9 hi;have hks:=Yl hkm;have h4:=ih E.kids[i] (by omega) (hkq _ hkm) hiv hx;have hset:=Zis (x:=(stepF p E.kids[i]).1) hi
     have hx':∀ k∈E.kids.set i (stepF p E.kids[i]).1,k.sdF p []=0∧k.nmOk:=fun k hk=>by
      rcases List.mem_or_eq_of_mem_set hk with hk | rfl
      ·exact ⟨(hkq k hk).1,(hkq k hk).2.1⟩
      ·exact ⟨h4.1,h4.2.1⟩
     refine ⟨Xq.2 ⟨Zhd (ks:=E.kids) (b:=[]) (by rw [E.eta]; exact (Xq.1 hE.1).1) (by simp) (fun _ h=>h),fun k hk=>?_⟩,Ex.nmOk_iff.2 ⟨(Ex.nmOk_iff.1 hE.2.1).1,fun k hk=>(hx' k hk).2⟩,?_⟩
     ·change Ex.sdF p k (if E.op=5 then [] ++ [E.name] else [])=0
      rw [if_neg hE5];exact (hx' k hk).1
     ·rw [Ex.sz_eq]
      change 1 + exsSz (E.kids.set i _)≤_
      have h5:=h4.2.2;omega
    ·rw [hni,if_neg (by omega)] at hx ⊢;rw [hk,exsSz,exsSz] at hEz;unfold redF at hx ⊢;rw [hk] at hx ⊢;dsimp only at hx ⊢
     have hrq:∀ x∈r,x.sdF p []=0∧x.nmOk:=fun x hx=>by
      have:=hkq x (by rw [hk]; simp [hx]); exact ⟨this.1,this.2.1⟩
     have hfq:=hkq f (by rw [hk]; simp);have haq:=hkq a (by rw [hk]; simp);rcases hcase with ⟨hf5,bd,hbd⟩ | hf3 | ⟨hf2,hfp,hfl⟩
     ·rw [if_pos hf5,hbd];have h6:=(Xq.1 hfq.1).2 bd (by rw [hbd]; simp);rw [if_pos hf5] at h6;have h7:=(Ex.nmOk_iff.1 hfq.2.1).2 bd (by rw [hbd]; simp);have h8:=f.sz_eq;rw [hbd,exsSz] at h8;have h9:=hfq.2.2;have h10:=sz_put (M:=M) bd [(f.name,a)] (by simpa using haq.2.2);have h11:=ZoZ (1 + M) (show bd.sz≤M by omega);have hX:ClQ p (M * (1 + M)) (bd.put [(f.name,a)]):=⟨sd_put bd _ _ [] h6 (fun n hn=>.inr (by simpa using hn)) (by simpa using haq.1),nm_put bd _ h7 (by simpa using haq.2.1),by omega⟩
      exact hw (Ziu hX hrq (Zoc _)) (by omega)
     ·rw [if_neg (by omega),if_pos hf3] at hx;cases hx
     ·rw [if_neg (by omega),if_neg (by omega)] at hx ⊢;cases hg:p.funs[(atFu p.funs f.name).toNat]? with
      | none=>exact hw hE (by omega)
      | some g =>
        rw [hg] at hx;have hs:=Zit (hb g (List.mem_of_getElem? hg)) (vs:=(a :: r).take g.arity.toNat) (M:=M) (fun v hv=>hkq v (by rw [hk]; exact ZoY _ (List.mem_of_mem_take hv))) hx;have hd:=ZdF (a :: r) g.arity.toNat;rw [exsSz] at hd
        exact hw (Ziu hs (fun x hx=>by
         have:=hkq x (by rw [hk]; exact ZoY _ (List.mem_of_mem_drop hx))
         exact ⟨this.1,this.2.1⟩) hd) (by omega)
end Go.PV.YtglpmlbbaedbiaaGreat
end
section
open Go.PV.AH renaming set_none→Zn2,set_ne→Zoa,set_same→Zn4,ne_of→ZnX,get→Zn8
open Go.PV.GhL renaming cons→Zod
open Go.PV.GhV renaming refl→Zoq,forget→Zoi
open Go.PV.Hold renaming mk→Zn0
open Go.PV.PureF renaming use→Zn3
open Go.PV.SubH renaming refl→Zn1,of_set→Zn6,new→Zn5
open Int renaming reduceEq→Zoh,toNat_natCast→ZoJ
open List renaming drop_zero→ZoB,drop→ZnZ
open Nat renaming reduceEqDiff→ZnW,reduceLT→ZnY,reduceAdd→Zn7
open Option renaming bind_some→Zol,map_some→Zog
set_option maxRecDepth 20000
set_option maxHeartbeats 8000000
namespace Go.PV.YtglpmlbbaedbiaaGreat
open Go Go.Proofs
structure InOk (p:Pr):Prop where
 ok:PrOk p
 sz:∀ f∈p.funs,fuSz f≤1099511627776
 nm:∀ f∈p.funs,∀ c∈f.cls,∀ s∈ZT c.pats,s.size≤maxLen
theorem InOk.fu {p:Pr} (h:InOk p) (hc:Ji p=0):FuOk p:=⟨ZkF hc,h.sz,h.nm⟩
theorem JW {p:Pr} {e:Ex} (h:Wo p e=0):Ji p=0∧e.sz≤5000∧e.dp≤200∧e.sdF p []=0:=by
 unfold Wo at h;split at h
 ·rename_i h1;split at h
  ·cases h
  ·split at h
   ·cases h
   ·exact ⟨h1,by omega,by omega,h⟩
 ·rename_i h1; exact absurd h h1
noncomputable def stepR (p:Pr) (e:Ex):Ex × Bool × Int :=
 if Wo p e=0 then (if e.isV p=true then (e,false,0) else if (stepF p e).2=0 then ((stepF p e).1,true,0) else (zEx,false,(stepF p e).2)) else (zEx,false,Wo p e)
abbrev srV (r:Ex × Bool × Int):VV:=.tuple [exV r.1,boolV r.2.1,iV r.2.2]
def srQ (H0:AH) (R:Ex × Bool × Int):APost:=YW Tryz.prog [.cell 4 35,.tmp 5,.tmp 6] fun e H'=>∃ y,e=VE.ret y∧GhV H' y H0 (srV R)
theorem ZjK {H0 H:AH} {t:Nat→VV} {r sp:Nat} {b1:Bool} {c:Int} {a b d:VV} {e':TypeId} {x:Ex} (h4:t 4=ptrV r 0) (h5:t 5=boolV b1) (h6:t 6=iV c) (k4:H r=some (.cells e' [a,b,d] sp)) (hg:GhV H (.agg [a,b,d]) H0 (exV x)):srQ H0 (x,b1,c) .ret ⟨t,[]⟩ H:=by
 refine Yk rfl (x:=.tuple [.agg [a,b,d],boolV b1,iV c]) (by simp only [resV,YO,YN,Yt,h4,h5,h6,k4,ptrV,ZoB,Xt,Zol,Zog,tupV]) ⟨_,rfl,?_⟩;have h1:GhL H [.agg [a,b,d],boolV b1,iV c] H0 [exV x,boolV b1,iV c]:=Zod hg (Zod (Zoq _ _) (Zod (Zoq _ _) (GhL.nil _)));exact GhV.tuple h1
theorem Step_ok {p:Pr} (hp:InOk p) {e:Ex} (hs:e.sz≤1099511627776) (hn:e.nmOk):PureF Tryz.prog 15 [prV p,exV e] (srV (stepR p e)):=by
 refine Xo.pure fun H0=>?_
 refine ZN fd15 (by simp) ?_;show vc _ _ (srQ H0 (stepR p e)) _ _;delta c15 Zj Zi Zq Zf Zb Zo Zr Za Zh Zg Zc Zm
 (repeat' (first | (simp only [↓ZI,ZJ,ptrV,ZnW,ZnY,ZM,ZnZ,undef,Zbc,Yt,Ys,en_24, *]) | (refine ZK fun zr zh=>?_; have zg:=zh; (try simp only [Zn2] at zg))))
 rename_i r2 n2 n2' r3 n3 n3';have g3:=n3'.2;have g4:=zg.2.2;have d34:=zg.1;refine ZkG hp.ok hs hn (fun ta tb H' hs' ht=>?_);have k3:H' r3=some (.cells 35 [iV e.op,sV e.name,encS exE e.kids] 0):=hs' _ _ (by rw [Zoa _ _ d34.2]; exact Zn4 _ _ _);have k4:=hs' _ _ (Zn4 _ _ _);have hsb:SubH H0 H':=SubH.trans (by repeat (first | exact Zn1 _ | refine Zn6 ?_ (by assumption))) hs';generalize zr=r4 at *
 clear hs' zh zg n3 n3' n2 n2';by_cases hr:Wo p e=0
 ·obtain ⟨hc,hz,_,hsd⟩:=JW hr;have hfu:=hp.fu hc
  obtain ⟨m1,m2,hma,hmb⟩:∃ m1 m2,ta=some m1∧tb=some m2:=by
   obtain ⟨m1,m2,h,_⟩:=ht hr;simp [tabE] at h;exact ⟨m1,m2,h.1,h.2⟩
  subst hma hmb;have hta:=ht hr;have hisv:=fun H2 (h:SubH H' H2)=>Zl5 hfu.nd (m1:=m1) (m2:=m2) (e.sz + 1) e [] H2 (by omega) hs hn hsd (hta.mono h)
  have hcp:=Zc8 e hs;cases hv:e.isV p with
  | true =>
    have hR:stepR p e=(e,false,0):=by unfold stepR; rw [if_pos hr,if_pos hv]
    rw [hR];rw [hr];rw [hv] at hisv;clear hR hr hv ht
    (repeat' (first | (simp only [↓ZI,ZJ,ZV,ptrV,boolV,ZnW,ZnY,Zn7,setAt,ZnZ,Yt,WR,JG,YD,Wj,Zci,ZnK, *]) | (refine ZK fun zr zh=>?_; have zg:=zh; (try simp only [Zn2] at zg); (try have zn_k3:=ZnX k3 zh); (try have zn_k3:=ZnX k3 zg.2); (try have zn_k3:=ZnX k3 zg.2.2); (try have zn_k4:=ZnX k4 zh); (try have zn_k4:=ZnX k4 zg.2); (try have zn_k4:=ZnX k4 zg.2.2)) | (exact Zn1 _) | (refine Zn6 ?_ ?_) | (refine Zn3 (hcp) ?_) | (refine (hisv _ ?_).use ?_)))
    have y7:=hsb.none zg;refine ZjK (e':=35) (sp:=0) (by simp only [ZL,ZnW,if_true,if_false, *]<;>rfl) (by simp only [ZL,ZnW,if_true,if_false, *]<;>rfl) (by simp only [ZL,ZnW,if_true,if_false, *]<;>rfl) (Zn4 _ _ _) ?_;exact Zoi (by repeat (first | exact hsb | refine Zn6 ?_ (by assumption))) _
  | false =>
    have hst:=fun H2 (h:SubH H' H2)=>ZmT hfu (m1:=m1) (m2:=m2) (e.sz + 1) e H2 (by omega) hs hn hsd hv (hta.mono h)
    by_cases hx:(stepF p e).2=0
    ·have hR:stepR p e=((stepF p e).1,true,0):=by unfold stepR; rw [if_pos hr,if_neg (by simp [hv]),if_pos hx]
     have hcl:=Zb9 (ZeW hc hp.ok) (M:=5000) (e.sz + 1) e (by omega) ⟨hsd,hn,hz⟩ hv hx;have hcp2:=Zc8 (stepF p e).1 (by have:=hcl.2.2; omega);rw [hR];generalize stepF p e=S at *
     obtain ⟨S1,S2⟩:=S;dsimp only at hx;subst hx;rw [hr];rw [hv] at hisv;clear hR hr hv ht hcl
     (repeat' (first | (simp only [↓ZI,ZJ,ZV,ptrV,boolV,ZnW,ZnY,Zn7,setAt,ZnZ,Yt,WR,JG,YD,Ys,Wj,Zci,ZnK,Zjn, *]) | (refine ZK fun zr zh=>?_; have zg:=zh; (try simp only [Zn2] at zg); (try have zn_k3:=ZnX k3 zh); (try have zn_k3:=ZnX k3 zg.2); (try have zn_k3:=ZnX k3 zg.2.2); (try have zn_k4:=ZnX k4 zh); (try have zn_k4:=ZnX k4 zg.2); (try have zn_k4:=ZnX k4 zg.2.2)) | (exact Zn1 _) | (refine Zn6 ?_ ?_) | (refine Zn3 (hcp2) ?_) | (refine (hisv _ ?_).use ?_) | (refine (hst _ ?_).use ?_)))
     rename_i r7 m7 m7' w1 w2;have y7:=hsb.none m7';have y9:=hsb.none zg.2;refine ZjK (e':=35) (sp:=0) (by simp only [ZL,ZnW,if_true,if_false, *]<;>rfl) (by simp only [ZL,ZnW,if_true,if_false, *]<;>rfl) (by simp only [ZL,ZnW,if_true,if_false, *]<;>rfl) (Zn4 _ _ _) ?_;exact Zoi (by repeat (first | exact hsb | refine Zn6 ?_ (by assumption))) _
    ·have hR:stepR p e=(zEx,false,(stepF p e).2):=by unfold stepR; rw [if_pos hr,if_neg (by simp [hv]),if_neg hx]
     rw [hR];generalize stepF p e=S at *
     obtain ⟨S1,S2⟩:=S;dsimp only at hx;rw [hr];rw [hv] at hisv;clear hR hr hv ht
     (repeat' (first | (simp only [↓ZI,ZJ,ZV,ptrV,boolV,ZnW,ZnY,Zn7,ZX,fillV,setAt,ZnZ,ZX,Yt,WR,JG,YD,WJ,Ys,Wj,Zci,Zjn, *]) | (refine ZK fun zr zh=>?_; have zg:=zh; (try simp only [Zn2] at zg); (try have zn_k3:=ZnX k3 zh); (try have zn_k3:=ZnX k3 zg.2); (try have zn_k3:=ZnX k3 zg.2.2); (try have zn_k4:=ZnX k4 zh); (try have zn_k4:=ZnX k4 zg.2); (try have zn_k4:=ZnX k4 zg.2.2)) | (exact Zn1 _) | (refine Zn6 ?_ ?_) | (refine (hisv _ ?_).use ?_) | (refine (hst _ ?_).use ?_)))
     rename_i r7 m7 m7' w1 w2;have y7:=hsb.none m7';have y9:=hsb.none zg.2;refine ZjK (e':=35) (sp:=0) (by simp only [ZL,ZnW,if_true,if_false, *]<;>rfl) (by simp only [ZL,ZnW,if_true,if_false, *]<;>rfl) (by simp only [ZL,ZnW,if_true,if_false, *]<;>rfl) (Zn4 _ _ _) ?_;exact Jj (by repeat (first | exact hsb | refine Zn6 ?_ (by assumption)))
 ·have hR:stepR p e=(zEx,false,Wo p e):=by unfold stepR; rw [if_neg hr]
  rw [hR];clear ht hR
  (repeat' (first | (simp only [↓ZI,ZJ,ZV,ptrV,ZnW,ZnY,Zn7,ZX,fillV,setAt,ZX,JG,YD,WJ,Wj, *]) | (refine ZK fun zr zh=>?_; have zg:=zh; (try simp only [Zn2] at zg); (try have zn_k3:=ZnX k3 zh); (try have zn_k3:=ZnX k3 zg.2); (try have zn_k3:=ZnX k3 zg.2.2); (try have zn_k4:=ZnX k4 zh); (try have zn_k4:=ZnX k4 zg.2); (try have zn_k4:=ZnX k4 zg.2.2))))
  have y7:=hsb.none zg;refine ZjK (e':=35) (sp:=0) (by simp only [ZL,ZnW,if_true,if_false, *]<;>rfl) (by simp only [ZL,ZnW,if_true,if_false, *]<;>rfl) (by simp only [ZL,ZnW,if_true,if_false, *]<;>rfl) (Zn4 _ _ _) ?_;exact Jj (by repeat (first | exact hsb | refine Zn6 ?_ (by assumption)))
noncomputable def Wg (p:Pr):Nat→Nat→Ex→Ex × Int × Int
 | 0,n,e=>if e.isV p=true then (e,(n:Int),0) else (zEx,0,8)
 | m + 1,n,e=>if e.isV p=true then (e,(n:Int),0) else if (stepF p e).2=0 then (if 20000 < (stepF p e).1.sz then (zEx,0,7) else Wg p m (n + 1) (stepF p e).1) else (zEx,0,(stepF p e).2)
noncomputable def WO (p:Pr) (e:Ex) (most:Int):Ex × Int × Int :=
 if Wo p e=0 then (if most < 0∨2000 < most then (zEx,0,4) else Wg p most.toNat 0 e) else (zEx,0,Wo p e)
abbrev ssV (r:Ex × Int × Int):VV:=.tuple [exV r.1,iV r.2.1,iV r.2.2]
def ssQ (H0:AH) (R:Ex × Int × Int):APost:=YW Tryz.prog [.cell 6 35,.tmp 7,.tmp 8] fun e H'=>∃ y,e=VE.ret y∧GhV H' y H0 (ssV R)
theorem ZeE {H0 H:AH} {t:Nat→VV} {r sp:Nat} {k c:Int} {a b d:VV} {e':TypeId} {x:Ex} (h6:t 6=ptrV r 0) (h7:t 7=iV k) (h8:t 8=iV c) (k6:H r=some (.cells e' [a,b,d] sp)) (hg:GhV H (.agg [a,b,d]) H0 (exV x)):ssQ H0 (x,k,c) .ret ⟨t,[]⟩ H:=by
 refine Yk rfl (x:=.tuple [.agg [a,b,d],iV k,iV c]) (by simp only [resV,YO,YN,Yt,h6,h7,h8,k6,ptrV,ZoB,Xt,Zol,Zog,tupV]) ⟨_,rfl,?_⟩;have h1:GhL H [.agg [a,b,d],iV k,iV c] H0 [exV x,iV k,iV c]:=Zod hg (Zod (Zoq _ _) (Zod (Zoq _ _) (GhL.nil _)));exact GhV.tuple h1
theorem TabAt.put {H:AH} {v:VV} {p:Pr} (h:TabAt H v p) {r:Nat} {e:TypeId} {xs:List VV} {sp:Nat} (hr:H r=some (.cells e xs sp)) (b:Blk):TabAt (H.set r b) v p:=by
 obtain ⟨m1,m2,h0,h1,h2⟩:=h;exact ⟨m1,m2,h0,by rw [Zoa _ _ (ZaQ hr h1).2]; exact h1,by rw [Zoa _ _ (ZaQ hr h2).2]; exact h2⟩
theorem Zln {p:Pr} (hfu:FuOk p) (hb:∀ f∈p.funs,BdOk p f) {e:Ex} {most:Nat} {m1 m2 r4 r6 r9:Nat} {t:Nat→VV} {H0 B:AH} {R:Ex × Int × Int} (hm:most≤2000) (he:ClQ p 20000 e) (hR:R=Wg p most 0 e)
 (h2:t 2=iV most) (h4:t 4=ptrV r4 0) (h6:t 6=ptrV r6 0) (h9:t 9=ptrV r9 0) (h11:t 11=iV 0) (hs:SubH H0 B) (g4:H0 r4=none) (g6:H0 r6=none) (d46:¬ r4=r6) (d94:¬ r9=r4) (ht:TabAt B (.agg (tabE m1 m2)) p)
 (k4:B r4=some (.cells 35 [iV e.op,sV e.name,encS exE e.kids] 0)) (k6:∃ a b c,B r6=some (.cells 35 [a,b,c] 0)) (k9:B r9=some (.cells 85 (tabE m1 m2) 0)) :
 ACx ⟨Tryz.prog,65,none⟩ (.loop b17_1) (YX 0 (thenA (ACx ⟨Tryz.prog,65,none⟩ c17_1 (ssQ H0 R)) (ssQ H0 R))) ⟨t,[]⟩ B:=by
 refine ZW (fun _ _ _ h=>h) (fun A H'=>A.d=[]∧A.t 2=iV most∧A.t 4=ptrV r4 0∧A.t 6=ptrV r6 0∧A.t 9=ptrV r9 0∧SubH H0 H'∧TabAt H' (.agg (tabE m1 m2)) p∧(∃ a b c,H' r6=some (.cells 35 [a,b,c] 0))∧H' r9=some (.cells 85 (tabE m1 m2) 0) ∧
  ∃ (n:Nat) (e':Ex),n≤most∧A.t 11=iV n∧H' r4=some (.cells 35 [iV e'.op,sV e'.name,encS exE e'.kids] 0)∧ClQ p 20000 e'∧R=Wg p (most - n) n e')
  (fun A _=>match A.t 11 with | .lit (.int _ n)=>((most:Int) - n).toNat | _=>0) ?_ ?_
 ·exact ⟨rfl,h2,h4,h6,h9,hs,ht,k6,k9,0,e,by omega,h11,k4,he,hR⟩
 ·clear h2 h4 h6 h9 h11 hs ht k4 k6 k9 he hR;rintro ⟨t,d⟩ H' ⟨rfl,h2,h4,h6,h9,hsb,ht,⟨z1,z2,z3,k6⟩,k9,n,e',hn,h11,k4,he,hR⟩;dsimp only at h2 h4 h6 h9 h11;have d64:¬ r6=r4:=fun e=>d46 e.symm
  delta b17_1 Zb Zo Zr Zq Za Zn Zg Zf Zh Zc Zm;have hez:=he.2.2;have hisv:=Zl5 hfu.nd (m1:=m1) (m2:=m2) (e'.sz + 1) e' [] H' (by omega) (by omega) he.2.1 he.1 ht;cases hv:e'.isV p with
  | true =>
    have hR':R=(e',(n:Int),0):=by
     rw [hR];cases most - n with
     | zero=>rw [Wg,if_pos hv]
     | succ m=>rw [Wg,if_pos hv]
    have hcp:=Zc8 e' (by omega);rw [hv] at hisv;rw [hR'];clear hR hR' hv
    (repeat' (first | (simp only [↓ZI,ZJ,ptrV,boolV,ZnW,ZnY,ZnZ,WR,Yt,Zci, *]) | (refine Ya rfl (fun _ _ _ h=>h) ?_) | (refine hisv.use ?_)))
    delta c17_1 Zb Zo Zr Za Zg Zc Zf
    (repeat' (first | (simp only [↓ZI,ZJ,ptrV,ZnW,ZnY,Zn7,setAt,ZnZ,Yt,YD,ZnK, *]) | (refine Zn3 (hcp) ?_)))
    refine ZeE (e':=35) (sp:=0) (by simp only [ZL,ZnW,if_false, *]<;>rfl) (by simp only [ZL,ZnW,if_true,if_false, *]<;>rfl) (by simp only [ZL,ZnW,if_true,if_false, *]<;>rfl) (Zn4 _ _ _) ?_;exact Zoi (by repeat (first | exact hsb | refine Zn6 ?_ (by assumption))) _
  | false =>
    have hst:=ZmT hfu (m1:=m1) (m2:=m2) (e'.sz + 1) e' H' (by omega) (by omega) he.2.1 he.1 hv ht;rw [hv] at hisv;by_cases hnm:n=most
    ·have hR':R=(zEx,0,8):=by
      rw [hR,show most - n=0 by omega,Wg,if_neg (by simp [hv])]
     rw [hR'];have hni:(n:Int)=(most:Int):=by omega
     clear hR hR' hv hst
     (repeat' (first | (simp only [↓ZI,ZJ,ptrV,boolV,ZnW,ZnY,Zn7,ZX,fillV,setAt,ZnZ,ZX,WR,Yt,YD,WJ,Zci, *]) | (refine hisv.use ?_)))
     refine ZeE (e':=35) (sp:=0) (by simp only [ZL,ZnW,if_false, *]<;>rfl) (by simp only [ZL,ZnW,if_true,if_false, *]<;>rfl) (by simp only [ZL,ZnW,if_true,if_false, *]<;>rfl) (Zn4 _ _ _) ?_;exact Jj (by repeat (first | exact hsb | refine Zn6 ?_ (by assumption)))
    ·have hni:¬ (n:Int)=(most:Int):=by omega
     obtain ⟨m,hm2⟩:∃ m,most - n=m + 1:=⟨most - n - 1,by omega⟩
     have hR1:R=if (stepF p e').2=0 then (if 20000 < (stepF p e').1.sz then (zEx,0,7) else Wg p m (n + 1) (stepF p e').1) else (zEx,0,(stepF p e').2):=by
      rw [hR,hm2,Wg,if_neg (by simp [hv])]
     clear hR;by_cases hx:(stepF p e').2=0
     ·have hcl:=Zb9 hb (M:=20000) (e'.sz + 1) e' (by omega) he hv hx;rw [if_pos hx] at hR1;generalize stepF p e'=S at *
      obtain ⟨S1,S2⟩:=S;dsimp only at hx hR1 hcl;subst hx;have hS1:S1.sz≤1099511627776:=by have:=hcl.2.2; omega
      have hsz:=ZkC S1 (by omega);by_cases hlg:20000 < S1.sz
      ·have hlg':(20000:Int) < (S1.sz:Int):=by omega
       rw [if_pos hlg] at hR1;rw [hR1];clear hR1 hv hcl
       (repeat' (first | (simp only [↓ZI,ZJ,ZV,ptrV,boolV,ZnW,ZnY,Zn7,ZX,fillV,setAt,ZnZ,ZX,WR,Yt,YD,WJ,Zci,Zjn,ZhT, *]) | (refine Zn3 (hsz) ?_) | (refine hisv.use ?_) | (refine hst.use ?_)))
       refine ZeE (e':=35) (sp:=0) (by simp only [ZL,ZnW,if_false, *]<;>rfl) (by simp only [ZL,ZnW,if_true,if_false, *]<;>rfl) (by simp only [ZL,ZnW,if_true,if_false, *]<;>rfl) (Zn4 _ _ _) ?_;exact Jj (by repeat (first | exact hsb | refine Zn6 ?_ (by assumption)))
      ·have hlg':¬ (20000:Int) < (S1.sz:Int):=by omega
       rw [if_neg hlg] at hR1;replace hR1:=Zn0 hR1;replace hcl:=Zn0 hcl;clear hv
       (repeat' (first | (simp only [↓ZI,ZJ,ZV,ptrV,boolV,ZnW,ZnY,Zn7,setAt,ZnZ,WR,Yt,YD,Zci,Zjn,ZhT, *]) | (refine Zn6 ?_ ?_) | (refine Zn3 (hsz) ?_) | (refine hisv.use ?_) | (refine hst.use ?_) | (with_reducible refine And.intro ?_ ?_)))
       all_goals try rw [ZR (n:=(n:Int) + 1) (by omega) (by omega)]
       all_goals first
        | omega
        | exact hsb.of_set g4
        | exact ht.put k4 _
        | exact ⟨_,_,_,rfl⟩
        | (refine ⟨n + 1,S1,by omega,rfl,rfl,⟨hcl.out.1,hcl.out.2.1,by omega⟩,?_⟩
           rw [hR1.out,show most - (n + 1)=m by omega])
     ·rw [if_neg hx] at hR1;generalize stepF p e'=S at *
      obtain ⟨S1,S2⟩:=S;dsimp only at hx hR1;rw [hR1];clear hR1 hv
      (repeat' (first | (simp only [↓ZI,ZJ,ZV,ptrV,boolV,ZnW,ZnY,Zn7,ZX,fillV,setAt,ZnZ,ZX,WR,Yt,YD,WJ,Zci,Zjn, *]) | (refine hisv.use ?_) | (refine hst.use ?_)))
      refine ZeE (e':=35) (sp:=0) (by simp only [ZL,ZnW,if_false, *]<;>rfl) (by simp only [ZL,ZnW,if_true,if_false, *]<;>rfl) (by simp only [ZL,ZnW,if_true,if_false, *]<;>rfl) (Zn4 _ _ _) ?_;exact Jj (by repeat (first | exact hsb | refine Zn6 ?_ (by assumption)))
theorem Steps_ok {p:Pr} (hp:InOk p) {e:Ex} (hs:e.sz≤1099511627776) (hn:e.nmOk) (most:Int):PureF Tryz.prog 17 [prV p,exV e,iV most] (ssV (WO p e most)):=by
 refine Xo.pure fun H0=>?_
 refine ZN fd17 (by simp) ?_;show vc _ _ (ssQ H0 (WO p e most)) _ _;delta c17 Zj Zi Zf Zb Zo Zr Za Zh Zg Zc Zm Zp Zq
 (repeat' (first | (simp only [↓ZI,ZJ,ptrV,ZnW,ZnY,ZM,ZnZ,undef,Yt,Zbc,Ys,en_24, *]) | (refine ZK fun zr zh=>?_; have zg:=zh; (try simp only [Zn2] at zg))))
 rename_i r3 n3 n3' r4 n4 n4';have g4:=n4'.2;have g6:=zg.2.2;have d64:=zg.1.1;have d46:=zg.1.2;have d34:=n4'.1;refine ZkG hp.ok hs hn (fun ta tb H' hs' ht=>?_);have k4:H' r4=some (.cells 35 [iV e.op,sV e.name,encS exE e.kids] 0):=hs' _ _ (by rw [Zoa _ _ d46]; exact Zn4 _ _ _);have k6:=hs' _ _ (Zn4 _ _ _);have hsb:SubH H0 H':=SubH.trans (by repeat (first | exact Zn1 _ | refine Zn6 ?_ (by assumption))) hs';generalize zr=r6 at *
 clear hs' zh zg n3 n3' n4 n4';by_cases hr:Wo p e=0
 ·obtain ⟨hc,hz,_,hsd⟩:=JW hr;have hfu:=hp.fu hc;have hbd:=ZeW hc hp.ok
  obtain ⟨m1,m2,hma,hmb⟩:∃ m1 m2,ta=some m1∧tb=some m2:=by
   obtain ⟨m1,m2,h,_⟩:=ht hr;simp [tabE] at h;exact ⟨m1,m2,h.1,h.2⟩
  subst hma hmb;have hta:=ht hr;clear ht hp hc;by_cases hm:most < 0∨2000 < most
  ·have hR:WO p e most=(zEx,0,4):=by unfold WO; rw [if_pos hr,if_pos hm]
   rw [hR];rw [hr];replace hfu:=Zn0 hfu;replace hbd:=Zn0 hbd;replace hta:=Zn0 hta;clear hR hr;by_cases hm0:most < 0
   ·clear hm
    (repeat' (first | (simp only [↓ZI,ZJ,ZV,ptrV,ZnW,ZnY,Zn7,ZU,ZM,ZX,fillV,setAt,undef,Zoh,ZX,YD,WJ,JG,Wj, *]) | (refine ZK fun zr zh=>?_; have zg:=zh; (try simp only [Zn2] at zg); (try have zn_k4:=ZnX k4 zh); (try have zn_k4:=ZnX k4 zg.2); (try have zn_k4:=ZnX k4 zg.2.2); (try have zn_k6:=ZnX k6 zh); (try have zn_k6:=ZnX k6 zg.2); (try have zn_k6:=ZnX k6 zg.2.2))))
    have y9:=hsb.none zg;refine ZeE (e':=35) (sp:=0) (by simp only [ZL,ZnW,if_true,if_false, *]<;>rfl) (by simp only [ZL,ZnW,if_true,if_false, *]<;>rfl) (by simp only [ZL,ZnW,if_true,if_false, *]<;>rfl) (Zn4 _ _ _) ?_;exact Jj (by repeat (first | exact hsb | refine Zn6 ?_ (by assumption)))
   ·have hm2:2000 < most:=by omega
    clear hm
    (repeat' (first | (simp only [↓ZI,ZJ,ZV,ptrV,ZnW,ZnY,Zn7,ZX,fillV,setAt,Zoh,ZX,YD,WJ,JG,Wj, *]) | (refine ZK fun zr zh=>?_; have zg:=zh; (try simp only [Zn2] at zg); (try have zn_k4:=ZnX k4 zh); (try have zn_k4:=ZnX k4 zg.2); (try have zn_k4:=ZnX k4 zg.2.2); (try have zn_k6:=ZnX k6 zh); (try have zn_k6:=ZnX k6 zg.2); (try have zn_k6:=ZnX k6 zg.2.2))))
    have y9:=hsb.none zg;refine ZeE (e':=35) (sp:=0) (by simp only [ZL,ZnW,if_true,if_false, *]<;>rfl) (by simp only [ZL,ZnW,if_true,if_false, *]<;>rfl) (by simp only [ZL,ZnW,if_true,if_false, *]<;>rfl) (Zn4 _ _ _) ?_;exact Jj (by repeat (first | exact hsb | refine Zn6 ?_ (by assumption)))
  ·have hm0:¬ most < 0:=fun h=>hm (.inl h)
   have hm2:¬ 2000 < most:=fun h=>hm (.inr h)
   obtain ⟨k,rfl⟩:∃ k:Nat,most=k:=⟨most.toNat,by omega⟩
   have hR:WO p e (k:Int)=Wg p k 0 e:=by unfold WO; rw [if_pos hr,if_neg hm,ZoJ]
   rw [hR];rw [hr];clear hR hr hm;obtain ⟨R,hR⟩:∃ R,R=Wg p k 0 e:=⟨_,rfl⟩
   rw [← hR];have hloop:=fun (r9:Nat) (t:Nat→VV) (B:AH)=>Zln (p:=p) hfu hbd (e:=e) (most:=k) (m1:=m1) (m2:=m2) (r4:=r4) (r6:=r6) (r9:=r9) (t:=t) (H0:=H0) (B:=B) (R:=R) (by omega) ⟨hsd,hn,by omega⟩ hR
   replace hR:=Zn0 hR;replace hfu:=Zn0 hfu;replace hbd:=Zn0 hbd
   (repeat' (first | (simp only [↓ZI,ZJ,ZV,ptrV,ZnW,ZnY,Zn7,setAt,JG,Wj, *]) | (refine ZK fun zr zh=>?_; have zg:=zh; (try simp only [Zn2] at zg); (try have zn_k4:=ZnX k4 zh); (try have zn_k4:=ZnX k4 zg.2); (try have zn_k4:=ZnX k4 zg.2.2); (try have zn_k6:=ZnX k6 zh); (try have zn_k6:=ZnX k6 zg.2); (try have zn_k6:=ZnX k6 zg.2.2))))
   have y9:=hsb.none zg;have d94:=ZnX k4 zg;exact hloop zr _ _ (by simp only [ZL,ZnW,if_false, *]<;>rfl) (by simp only [ZL,ZnW,if_true,if_false, *]<;>rfl) (by simp only [ZL,ZnW,if_true,if_false, *]<;>rfl) (by simp only [ZL,ZnW,if_true,if_false, *]<;>rfl) (by simp only [ZL,ZnW,if_true,if_false, *]<;>rfl) (hsb.of_set y9) g4 g6 d46 d94.2 (hta.mono (Zn5 zh)) (by rw [Zoa _ _ d94.1]; exact k4) ⟨_,_,_,(by simp only [Zn8, *,if_false]<;>rfl)⟩ (Zn4 _ _ _)
 ·have hR:WO p e most=(zEx,0,Wo p e):=by unfold WO; rw [if_neg hr]
  rw [hR];clear ht hR
  (repeat' (first | (simp only [↓ZI,ZJ,ZV,ptrV,ZnW,ZnY,Zn7,ZU,ZM,ZX,fillV,setAt,undef,ZX,YD,WJ,JG,Wj, *]) | (refine ZK fun zr zh=>?_; have zg:=zh; (try simp only [Zn2] at zg); (try have zn_k4:=ZnX k4 zh); (try have zn_k4:=ZnX k4 zg.2); (try have zn_k4:=ZnX k4 zg.2.2); (try have zn_k6:=ZnX k6 zh); (try have zn_k6:=ZnX k6 zg.2); (try have zn_k6:=ZnX k6 zg.2.2))))
  have y9:=hsb.none zg;refine ZeE (e':=35) (sp:=0) (by simp only [ZL,ZnW,if_true,if_false, *]<;>rfl) (by simp only [ZL,ZnW,if_true,if_false, *]<;>rfl) (by simp only [ZL,ZnW,if_true,if_false, *]<;>rfl) (Zn4 _ _ _) ?_;exact Jj (by repeat (first | exact hsb | refine Zn6 ?_ (by assumption)))
end Go.PV.YtglpmlbbaedbiaaGreat
end
section
open Go.PV.AH renaming set_none→Zn2,get→Zn8,set_same→Zn4,set_ne→Zoa
open Go.PV.GhL renaming cons→Zod
open Go.PV.GhV renaming refl→Zoq
open Go.PV.Hold renaming mk→Zn0
open Go.PV.PureF renaming use→Zn3,forget→Zoj
open Go.PV.SubH renaming refl→Zn1,of_set→Zn6,new→Zn5
open Int renaming reduceLT→Zom,reduceEq→Zoh,reduceNeg→ZoA
open List renaming drop→ZnZ,drop_eq_nil_of_le→Zop,eq_nil_of_length_eq_zero→ZoM,nil_append→ZoV,getElem_mem→Zn9
open Nat renaming reduceEqDiff→ZnW,reduceLT→ZnY,reduceLeDiff→Zof,zero_add→Zot
set_option maxRecDepth 20000
set_option maxHeartbeats 8000000
namespace Go.PV.YtglpmlbbaedbiaaGreat
open Go Go.Proofs
theorem ZeX {ox oy:Operand} {a b:Bool} {H:AH} {K:VE→AH→Prop}:vcBin Tryz.prog .neq 4 ox oy (.lit (.bool a)) (.lit (.bool b)) H K=K (.ret (boolV (!(a == b)))) H:=by
 have hu:(Tryz.prog).underlying 4=some .bool:=Tryz.underlying4;unfold vcBin;simp only [YR];exact propext ⟨fun h=>h.2.2 _ rfl,fun h=>⟨hu,.inr (.inr hu),fun c hb=>by rw [show c=(a == b) from hb]; exact h⟩⟩
theorem nb_tt {ox oy:Operand} {H:AH} {K:VE→AH→Prop}:vcBin Tryz.prog .neq 4 ox oy (.lit (.bool true)) (.lit (.bool true)) H K=K (.ret (boolV false)) H:=ZeX
theorem nb_tf {ox oy:Operand} {H:AH} {K:VE→AH→Prop}:vcBin Tryz.prog .neq 4 ox oy (.lit (.bool true)) (.lit (.bool false)) H K=K (.ret (boolV true)) H:=ZeX
theorem ZnV {ox oy:Operand} {H:AH} {K:VE→AH→Prop}:vcBin Tryz.prog .neq 4 ox oy (.lit (.bool false)) (.lit (.bool true)) H K=K (.ret (boolV true)) H:=ZeX
theorem ZgK {ox oy:Operand} {H:AH} {K:VE→AH→Prop}:vcBin Tryz.prog .neq 4 ox oy (.lit (.bool false)) (.lit (.bool false)) H K=K (.ret (boolV false)) H:=ZeX
theorem ZcP {p:Pr} {op:Int} {name:ByteArray} {ks:List Ex} {vars:List ByteArray} {t:Nat→VV} {H0 B:AH} {r3 r4:Nat} {R:Int} (hN:ks.length≤1099511627776)
 (ih:∀ i (h:i < ks.length),PureF Tryz.prog 55 [prV p,exV ks[i],strsV vars] (iV (ks[i].sdF p vars))) (hR:R=sdsF p ks vars) (h2:t 2=strsV vars) (h3:t 3=ptrV r3 0) (h4:t 4=ptrV r4 0) (h7:t 7=iV 0)
 (k3:B r3=some (.cells 25 [cosV p.cons,fusV p.funs] 0)) (k4:B r4=some (.cells 28 [iV op,sV name,encS exE ks] 0)) (hs:SubH H0 B) :
 ACx ⟨Tryz.prog,137,none⟩ (.loop b55_1) (YX 1 (thenA (ACx ⟨Tryz.prog,137,none⟩ c55_1 (sdQ H0 R)) (sdQ H0 R))) ⟨t,[]⟩ B:=by
 refine ZW (fun _ _ _ h=>h) (fun A H'=>H'=B∧A.d=[]∧A.t 2=strsV vars∧A.t 3=ptrV r3 0∧A.t 4=ptrV r4 0∧∃ i:Nat,i≤ks.length∧A.t 7=iV i∧R=sdsF p (ks.drop i) vars)
  (fun A _=>match A.t 7 with | .lit (.int _ i)=>((ks.length:Int) - i).toNat | _=>0) ?_ ?_
 ·exact ⟨rfl,rfl,h2,h3,h4,0,by omega,h7,hR⟩
 ·clear hR h2 h3 h4 h7;rintro ⟨t,d⟩ H' ⟨rfl,rfl,h2,h3,h4,i,hi,h7,hR⟩;dsimp only at h2 h3 h4 h7;delta b55_1 Za Zd Zb Ze Zn Zr Zk Zo Zc Zm;by_cases hlt:i < ks.length
  ·have hil:(i:Int) < (ks.length:Int):=by omega
   have hdi:=XB hlt;rw [Ziq hlt] at hR;replace hR:=Zn0 hR;have ihi:=ih i hlt;clear ih
   (repeat' (first | (simp only [↓ZI,ZJ,ptrV,intV,ZnW,ZnY,reduceCtorEq,ZnZ,Yb,Yv,YI,Yp,Yf,en_55, *]) | (refine Ym ?_ ?_<;>intro) | (refine ZP ?_) | (refine ZS mixed (fun _ _ _ _ e h=>⟨e.trans h.1,h.2⟩) _ (Zn1 _) ?_) | (refine Zn3 (ihi) ?_) | (with_reducible refine And.intro ?_ ?_)))
   all_goals try rw [ZR (n:=(i:Int) + 1) (by omega) (by omega)]
   all_goals first
    | omega
    | exact hs
    | (have hne:(!decide (Ex.sdF p ks[i] vars=0))=true:=by assumption
       rw [hR.out,if_neg (by simpa using hne)])
    | (have hne:(!decide (Ex.sdF p ks[i] vars=0))=false:=by assumption
       exact ⟨i + 1,by omega,rfl,by rw [hR.out,if_pos (by simpa using hne)]⟩)
  ·have hil:¬ (i:Int) < (ks.length:Int):=by omega
   rw [Zop (by omega)] at hR;have hR:R=0:=hR;subst hR
   (repeat' (first | (simp only [↓ZI,ZJ,ptrV,intV,ZnW,ZnY,reduceCtorEq,ZnZ,Yb,Yv,Yf, *]) | (refine Ya rfl (fun _ _ _ h=>h) ?_)))
   delta c55_1 Zf
   (repeat' (first | (simp only [↓ZI,ZJ,ZnW,ZnY, *]) | (refine ZP ?_)))
   all_goals try exact hs
theorem rsd_node {p:Pr} {op nk ac af:Int} {name:ByteArray} {kids:List Ex} {hb:Bool} {vars:List ByteArray} {R:Int} (hN:kids.length≤1099511627776) (hvl:vars.length≤1099511627776) (hnk:(kids.length:Int)=nk)
 (ih:∀ (vars':List ByteArray),vars'.length≤vars.length + 1→∀ i (h:i < kids.length),PureF Tryz.prog 55 [prV p,exV kids[i],strsV vars'] (iV (kids[i].sdF p vars')))
 (hc:PureF Tryz.prog 91 [.agg [cosV p.cons,fusV p.funs],sV name] (iV ac)) (hf:PureF Tryz.prog 56 [.agg [cosV p.cons,fusV p.funs],sV name] (iV af))
 (hat:ac=-1∨∃ j:Nat,∃ h:j < p.cons.length,ac=j) (hhas:PureF Tryz.prog 92 [strsV vars,sV name] (boolV hb))
 (o:Int) (ho:o=if formB op nk (!decide (name={ data:=#[] }))=false then 2 else if op=2∧af < 0 then 9 else if op=3∧ac < 0 then 9 else if op=3∧¬ nk=(match p.cons[ac.toNat]? with | some c=>c.arity | none=>0) then 5 else if op=1∧hb=false then 422 else 0)
 (hR:R=if o=0 then sdsF p kids (if op=5 then vars ++ [name] else vars) else o):PureF Tryz.prog 55 [prV p,.agg [iV op,sV name,encS exE kids],strsV vars] (iV R):=by
 refine Zoj fun H=>?_
 refine ZN fd55 (by simp) ?_;delta c55 Zj Zf Zd Zb Zm Za Zp Zr Zq Zc Zn Zl;unfold formB at ho;by_cases h1:op=1
 ·subst h1;by_cases hk:0 < nk
  ·have hR':=Zn0 (show (2:Int)=R by rw [hR,ho]; simp [hk]);clear hR ho ih
   (repeat' (first | (simp only [↓ZI,ZJ,ptrV,intV,ZnW,ZnY,reduceCtorEq,ZU,ZM,ZnZ,undef,Zom,Yb,ZZ,Yv,Yc,Yf, *]) | (refine ZP ?_) | (refine ZK fun zr zh=>?_; have zg:=zh; (try simp only [Zn2] at zg)) | (exact Zn1 _) | (refine Zn6 ?_ ?_) | (with_reducible refine And.intro ?_ ?_)))
   all_goals first
    | rw [hR'.out]
    | (rename_i r3 n3 n3'; exact (Zn5 n3).of_set zg.2)
  ·by_cases hn:name={ data:=#[] }
   ·have hR':=Zn0 (show (2:Int)=R by rw [hR,ho]; simp [hn]);clear hR ho ih
    (repeat' (first | (simp only [↓ZI,ZJ,↓Xd,ptrV,intV,boolV,ZnW,ZnY,reduceCtorEq,ZU,ZM,ZnZ,undef,Zoh,Zom,ZnV,Yb,ZZ,Yq,Yv,Yc,Ye,Yf, *]) | (refine ZP ?_) | (refine ZK fun zr zh=>?_; have zg:=zh; (try simp only [Zn2] at zg)) | (exact Zn1 _) | (refine Zn6 ?_ ?_) | (with_reducible refine And.intro ?_ ?_)))
    all_goals first
     | rw [hR'.out]
     | (rename_i r3 n3 n3'; exact (Zn5 n3).of_set zg.2)
   ·cases hb with
    | false =>
      have hR':=Zn0 (show (422:Int)=R by rw [hR,ho]; simp [hn,hk]);clear hR ho ih
      (repeat' (first | (simp only [↓ZI,ZJ,↓Xd,ptrV,intV,boolV,ZnW,ZnY,reduceCtorEq,ZU,ZM,ZnZ,undef,Zoh,Zom,ZgK,Yb,ZZ,Yq,Yv,Yc,Ye,Yf,Zbo,Zgh,ZhU, *]) | (refine ZP ?_) | (refine ZS mixed (fun _ _ _ _ e h=>⟨e.trans h.1,h.2⟩) _ (Zn1 _) ?_) | (refine ZK fun zr zh=>?_; have zg:=zh; (try simp only [Zn2] at zg)) | (exact Zn1 _) | (refine Zn6 ?_ ?_) | (refine Zn3 (hhas) ?_) | (with_reducible refine And.intro ?_ ?_)))
      all_goals first
       | rw [hR'.out]
       | (rename_i r3 n3 n3'; exact (Zn5 n3).of_set zg.2)
    | true =>
      have hR':=Zn0 (show R=sdsF p kids vars by rw [hR,ho]; simp [hn,hk]);clear hR ho
      (repeat' (first | (simp only [↓ZI,ZJ,↓Xd,ptrV,intV,boolV,ZnW,ZnY,reduceCtorEq,ZU,ZM,ZnZ,undef,Zoh,Zom,ZgK,Yb,ZZ,Yq,Yv,Yc,Ye,Yf,Zbo,Zgh,ZhU, *]) | (refine ZS mixed (fun _ _ _ _ e h=>⟨e.trans h.1,h.2⟩) _ (Zn1 _) ?_) | (refine ZK fun zr zh=>?_; have zg:=zh; (try simp only [Zn2] at zg)) | (exact Zn1 _) | (refine Zn3 (hhas) ?_) | (with_reducible refine And.intro ?_ ?_)))
      rename_i r3 n3 n3';refine ZcP (op:=1) (name:=name) (ks:=kids) (vars:=vars) (r3:=r3) (r4:=zr) hN (fun i h=>ih vars (by omega) i h) hR'.out (by simp only [ZL,ZnW,if_false, *]<;>rfl) (by simp only [ZL,ZnW,if_true,if_false, *]<;>rfl) (by simp only [ZL,ZnW,if_true,if_false, *]<;>rfl) (by simp only [ZL,ZnW,if_true,if_false, *]<;>rfl) (by simp only [Zn8, *,if_true,if_false]<;>rfl) (Zn4 _ _ _) ((Zn5 n3).of_set zg.2)
 ·by_cases h2:op=2
  ·subst h2;by_cases hk:0 < nk
   ·have hR':=Zn0 (show (2:Int)=R by rw [hR,ho]; simp [hk]);clear hR ho ih
    (repeat' (first | (simp only [↓ZI,ZJ,ptrV,intV,ZnW,ZnY,reduceCtorEq,ZM,ZnZ,undef,Zom,Yb,ZZ,Yv,Yc,Yf, *]) | (refine ZP ?_) | (refine ZK fun zr zh=>?_; have zg:=zh; (try simp only [Zn2] at zg)) | (exact Zn1 _) | (refine Zn6 ?_ ?_) | (with_reducible refine And.intro ?_ ?_)))
    all_goals first
     | rw [hR'.out]
     | (rename_i r3 n3 n3'; exact (Zn5 n3).of_set zg.2)
   ·by_cases hn:name={ data:=#[] }
    ·have hR':=Zn0 (show (2:Int)=R by rw [hR,ho]; simp [hn]);clear hR ho ih
     (repeat' (first | (simp only [↓ZI,ZJ,↓Xd,ptrV,intV,boolV,ZnW,ZnY,reduceCtorEq,ZU,ZM,ZnZ,undef,Zoh,Zom,ZnV,Yb,ZZ,Yq,Yv,Yc,Ye,Yf, *]) | (refine ZP ?_) | (refine ZK fun zr zh=>?_; have zg:=zh; (try simp only [Zn2] at zg)) | (exact Zn1 _) | (refine Zn6 ?_ ?_) | (with_reducible refine And.intro ?_ ?_)))
     all_goals first
      | rw [hR'.out]
      | (rename_i r3 n3 n3'; exact (Zn5 n3).of_set zg.2)
    ·by_cases haf:af < 0
     ·have hR':=Zn0 (show (9:Int)=R by rw [hR,ho]; simp [hn,hk,haf]);clear hR ho ih
      (repeat' (first | (simp only [↓ZI,ZJ,↓Xd,ptrV,intV,boolV,ZnW,ZnY,reduceCtorEq,ZU,ZM,ZnZ,undef,Zoh,Zom,ZgK,Yb,ZZ,Yq,Yv,YI,Yc,Ye,Yf,Zbo, *]) | (refine ZP ?_) | (refine ZK fun zr zh=>?_; have zg:=zh; (try simp only [Zn2] at zg)) | (exact Zn1 _) | (refine Zn6 ?_ ?_) | (refine Zn3 (hf) ?_) | (with_reducible refine And.intro ?_ ?_)))
      all_goals first
       | rw [hR'.out]
       | (rename_i r3 n3 n3'; exact (Zn5 n3).of_set zg.2)
     ·have hR':=Zn0 (show R=sdsF p kids vars by rw [hR,ho]; simp [hn,hk,haf]);clear hR ho
      (repeat' (first | (simp only [↓ZI,ZJ,↓Xd,ptrV,intV,boolV,ZnW,ZnY,reduceCtorEq,ZU,ZM,ZnZ,undef,Zoh,Zom,ZgK,Yb,ZZ,Yq,Yv,YI,Yc,Ye,Yf,Zbo,Zgh,ZhU, *]) | (refine ZS mixed (fun _ _ _ _ e h=>⟨e.trans h.1,h.2⟩) _ (Zn1 _) ?_) | (refine ZK fun zr zh=>?_; have zg:=zh; (try simp only [Zn2] at zg)) | (exact Zn1 _) | (refine Zn3 (hf) ?_) | (with_reducible refine And.intro ?_ ?_)))
      rename_i r3 n3 n3';refine ZcP (op:=2) (name:=name) (ks:=kids) (vars:=vars) (r3:=r3) (r4:=zr) hN (fun i h=>ih vars (by omega) i h) hR'.out (by simp only [ZL,ZnW,if_false, *]<;>rfl) (by simp only [ZL,ZnW,if_true,if_false, *]<;>rfl) (by simp only [ZL,ZnW,if_true,if_false, *]<;>rfl) (by simp only [ZL,ZnW,if_true,if_false, *]<;>rfl) (by simp only [Zn8, *,if_true,if_false]<;>rfl) (Zn4 _ _ _) ((Zn5 n3).of_set zg.2)
  ·by_cases h5:op=5
   ·subst h5;by_cases hk:nk=1
    ·by_cases hn:name={ data:=#[] }
     ·have hR':=Zn0 (show (2:Int)=R by rw [hR,ho]; simp [hn]);clear hR ho ih
      (repeat' (first | (simp only [↓ZI,ZJ,↓Xd,ptrV,intV,boolV,ZnW,ZnY,reduceCtorEq,ZU,ZM,ZnZ,undef,Zoh,Zom,ZnV,Yb,ZZ,Yq,Yv,Yc,Ye,Yf, *]) | (refine ZP ?_) | (refine ZK fun zr zh=>?_; have zg:=zh; (try simp only [Zn2] at zg)) | (exact Zn1 _) | (refine Zn6 ?_ ?_) | (with_reducible refine And.intro ?_ ?_)))
      all_goals first
       | rw [hR'.out]
       | (rename_i r3 n3 n3'; exact (Zn5 n3).of_set zg.2)
     ·have hR':=Zn0 (show R=sdsF p kids (vars ++ [name]) by rw [hR,ho]; simp [hn,hk]);clear hR ho
      (repeat' (first | (simp only [↓ZI,ZJ,↓Xd,ptrV,intV,boolV,ZnW,ZnY,Zof,reduceCtorEq,ZU,ZM,fillV,setAt,ZnZ,undef,Zoh,Zom,ZQ,ZQ,ZgK,Yb,ZZ,Yq,Yv,Yc,Ye,Yf,YH,Xr,Zbo,Zgh,ZhU, *]) | (refine ZS mixed (fun _ _ _ _ e h=>⟨e.trans h.1,h.2⟩) _ (Zn1 _) ?_) | (refine ZK fun zr zh=>?_; have zg:=zh; (try simp only [Zn2] at zg)) | (exact Zn1 _) | (with_reducible refine And.intro ?_ ?_)))
      rename_i r3 n3 n3';have hsr:∀ b1 b2,SubH H ((H.set r3 b1).set zr b2):=fun _ _=>(Zn5 n3).of_set zg.2
      refine (OutE.start (Zn1 _)).append YH Xr rfl (by omega) (XZ (enc:=strE) (k:=1) (fun _=>rfl) _ false vars) (Xv Ze7 vars) (by omega) (by omega) (fun h0=>by rw [ZoM h0]; rfl) (fun v' H' ho=>?_);have hos:=ho.sub;have k4:=ho.sub _ _ (Zn4 _ _ _);rw [Zot,ZoV] at ho;replace ho:=Zn0 ho
      (repeat' (first | (simp only [↓ZI,ZJ,ZnW,ZnY, *])))
      refine ho.out.append1 (xs:=[sV name]) YH Xr rfl (by omega) rfl rfl (by omega) (by omega) (fun v2 H2 ho2=>?_);have e1:encC strE vars ++ [sV name]=encC strE (vars ++ [name]):=by rw [Yo]; rfl
      have e2:vars.length + 1=(vars ++ [name]).length:=by simp
      rw [e1,e2] at ho2;have hc2:=ho2.cells.1;have k42:=ho2.sub _ _ (Zn4 _ _ _);replace ho2:=Zn0 ho2;clear e1 e2
      (repeat' (first | (simp only [↓ZI,ZJ,ZnW,ZnY, *])))
      refine XI (OutE.ghost (i:=2) (e:=9) (k:=1) (n:=(vars ++ [name]).length) (cs:=encC strE (vars ++ [name])) (by simp only [ZL,ZnW,if_true,if_false]; exact ho2.out) _) ?_;exact ZcP (op:=5) (name:=name) (ks:=kids) (vars:=vars ++ [name]) (r3:=r3) (r4:=zr) hN (fun i h=>ih _ (by simp) i h) hR'.out (by simp only [ZL,ZnW,if_true,if_false, *]<;>rfl) (by simp only [ZL,ZnW,if_true,if_false, *]<;>rfl) (by simp only [ZL,ZnW,if_true,if_false, *]<;>rfl) (by simp only [ZL,ZnW,if_true,if_false, *]<;>rfl) (by rw [Zoa _ _ zg.1.2]; exact Zn4 _ _ _) (Zn4 _ _ _) (hsr _ _)
    ·have hR':=Zn0 (show (2:Int)=R by rw [hR,ho]; simp [hk]);clear hR ho ih
     (repeat' (first | (simp only [↓ZI,ZJ,ptrV,intV,ZnW,ZnY,reduceCtorEq,ZU,ZM,ZnZ,undef,Zom,Yb,ZZ,Yv,Yc,Yf, *]) | (refine ZP ?_) | (refine ZK fun zr zh=>?_; have zg:=zh; (try simp only [Zn2] at zg)) | (exact Zn1 _) | (refine Zn6 ?_ ?_) | (with_reducible refine And.intro ?_ ?_)))
     all_goals first
      | rw [hR'.out]
      | (rename_i r3 n3 n3'; exact (Zn5 n3).of_set zg.2)
   ·by_cases h4:op=4
    ·subst h4;by_cases hk:nk < 2
     ·have hR':=Zn0 (show (2:Int)=R by rw [hR,ho]; simp [hk]);clear hR ho ih
      (repeat' (first | (simp only [↓ZI,ZJ,ptrV,intV,ZnW,ZnY,reduceCtorEq,ZU,ZM,ZnZ,undef,Zom,Yb,ZZ,Yv,Yc,Yf, *]) | (refine ZP ?_) | (refine ZK fun zr zh=>?_; have zg:=zh; (try simp only [Zn2] at zg)) | (exact Zn1 _) | (refine Zn6 ?_ ?_) | (with_reducible refine And.intro ?_ ?_)))
      all_goals first
       | rw [hR'.out]
       | (rename_i r3 n3 n3'; exact (Zn5 n3).of_set zg.2)
     ·by_cases hn:name={ data:=#[] }
      ·have hR':=Zn0 (show R=sdsF p kids vars by rw [hR,ho]; simp [hn,hk]);clear hR ho
       (repeat' (first | (simp only [↓ZI,ZJ,↓Xd,ptrV,intV,boolV,ZnW,ZnY,reduceCtorEq,ZU,ZM,ZnZ,undef,Zoh,Zom,nb_tt,Yb,ZZ,Yq,Yv,Yc,Ye,Yf,Zbo,Zgh,ZhU, *]) | (refine ZS mixed (fun _ _ _ _ e h=>⟨e.trans h.1,h.2⟩) _ (Zn1 _) ?_) | (refine ZK fun zr zh=>?_; have zg:=zh; (try simp only [Zn2] at zg)) | (exact Zn1 _) | (with_reducible refine And.intro ?_ ?_)))
       rename_i r3 n3 n3';refine ZcP (op:=4) (name:={ data:=#[] }) (ks:=kids) (vars:=vars) (r3:=r3) (r4:=zr) hN (fun i h=>ih vars (by omega) i h) hR'.out (by simp only [ZL,ZnW,if_false, *]<;>rfl) (by simp only [ZL,ZnW,if_true,if_false, *]<;>rfl) (by simp only [ZL,ZnW,if_true,if_false, *]<;>rfl) (by simp only [ZL,ZnW,if_true,if_false, *]<;>rfl) (by simp only [Zn8, *,if_true,if_false]<;>rfl) (Zn4 _ _ _) ((Zn5 n3).of_set zg.2)
      ·have hR':=Zn0 (show (2:Int)=R by rw [hR,ho]; simp [hn]);clear hR ho ih
       (repeat' (first | (simp only [↓ZI,ZJ,↓Xd,ptrV,intV,boolV,ZnW,ZnY,reduceCtorEq,ZU,ZM,ZnZ,undef,Zom,nb_tf,Yb,ZZ,Yq,Yv,Yc,Ye,Yf, *]) | (refine ZP ?_) | (refine ZK fun zr zh=>?_; have zg:=zh; (try simp only [Zn2] at zg)) | (exact Zn1 _) | (refine Zn6 ?_ ?_) | (with_reducible refine And.intro ?_ ?_)))
       all_goals first
        | rw [hR'.out]
        | (rename_i r3 n3 n3'; exact (Zn5 n3).of_set zg.2)
    ·by_cases h3:op=3
     ·subst h3;by_cases hn:name={ data:=#[] }
      ·have hR':=Zn0 (show (2:Int)=R by rw [hR,ho]; simp [hn]);clear hR ho ih
       (repeat' (first | (simp only [↓ZI,ZJ,↓Xd,ptrV,boolV,ZnW,ZnY,ZU,ZM,ZnZ,undef,Zom,ZnV,ZZ,Yq,Yc,Ye, *]) | (refine ZP ?_) | (refine ZK fun zr zh=>?_; have zg:=zh; (try simp only [Zn2] at zg)) | (exact Zn1 _) | (refine Zn6 ?_ ?_) | (with_reducible refine And.intro ?_ ?_)))
       all_goals first
        | rw [hR'.out]
        | (rename_i r3 n3 n3'; exact (Zn5 n3).of_set zg.2)
      ·rcases hat with rfl | ⟨j,hj,rfl⟩
       ·have hR':=Zn0 (show (9:Int)=R by rw [hR,ho]; simp [hn]);clear hR ho ih
        (repeat' (first | (simp only [↓ZI,ZJ,↓Xd,ptrV,boolV,ZnW,ZnY,ZU,ZM,ZnZ,undef,Zom,ZoA,ZgK,ZZ,Yq,YI,Yc,Ye,Zbo,Zgh, *]) | (refine ZP ?_) | (refine ZK fun zr zh=>?_; have zg:=zh; (try simp only [Zn2] at zg)) | (exact Zn1 _) | (refine Zn6 ?_ ?_) | (refine Zn3 (hc) ?_) | (with_reducible refine And.intro ?_ ?_)))
        all_goals first
         | rw [hR'.out]
         | (rename_i r3 n3 n3'; exact (Zn5 n3).of_set zg.2)
       ·have hcd:=Jx hj;have hjl:(j:Int) < (p.cons.length:Int):=by omega
        have hj0:¬ (j:Int) < 0:=by omega
        by_cases hka:nk=p.cons[j].arity
        ·have hR':=Zn0 (show R=sdsF p kids vars by rw [hR,ho]; simp [hn,hj,hka,hj0]);clear hR ho
         (repeat' (first | (simp only [↓ZI,ZJ,↓Xd,ptrV,intV,boolV,ZnW,ZnY,reduceCtorEq,ZU,ZM,ZnZ,undef,Zom,ZgK,Yb,ZZ,Yq,Wr,JX,Yv,YI,Yc,Ye,Zav,Yf,Ja,Zbo,Zgh,ZhU, *]) | (refine ZS mixed (fun _ _ _ _ e h=>⟨e.trans h.1,h.2⟩) _ (Zn1 _) ?_) | (refine ZK fun zr zh=>?_; have zg:=zh; (try simp only [Zn2] at zg)) | (exact Zn1 _) | (refine Zn3 (hc) ?_) | (with_reducible refine And.intro ?_ ?_)))
         rename_i r3 n3 n3';refine ZcP (op:=3) (name:=name) (ks:=kids) (vars:=vars) (r3:=r3) (r4:=zr) hN (fun i h=>ih vars (by omega) i h) hR'.out (by simp only [ZL,ZnW,if_false, *]<;>rfl) (by simp only [ZL,ZnW,if_true,if_false, *]<;>rfl) (by simp only [ZL,ZnW,if_true,if_false, *]<;>rfl) (by simp only [ZL,ZnW,if_true,if_false, *]<;>rfl) (by simp only [Zn8, *,if_true,if_false]<;>rfl) (Zn4 _ _ _) ((Zn5 n3).of_set zg.2)
        ·have hR':=Zn0 (show (5:Int)=R by rw [hR,ho]; simp [hn,hj,hka,hj0]);clear hR ho ih
         (repeat' (first | (simp only [↓ZI,ZJ,↓Xd,ptrV,intV,boolV,ZnW,ZnY,reduceCtorEq,ZU,ZM,ZnZ,undef,Zom,ZgK,Yb,ZZ,Yq,Wr,JX,Yv,YI,Yc,Ye,Zav,Yf,Ja,Zbo,Zgh, *]) | (refine ZP ?_) | (refine ZS mixed (fun _ _ _ _ e h=>⟨e.trans h.1,h.2⟩) _ (Zn1 _) ?_) | (refine ZK fun zr zh=>?_; have zg:=zh; (try simp only [Zn2] at zg)) | (exact Zn1 _) | (refine Zn6 ?_ ?_) | (refine Zn3 (hc) ?_) | (with_reducible refine And.intro ?_ ?_)))
         all_goals first
          | rw [hR'.out]
          | (rename_i r3 n3 n3'; exact (Zn5 n3).of_set zg.2)
     ·have hR':=Zn0 (show (2:Int)=R by rw [hR,ho]; simp [h1,h2,h3,h4,h5]);clear hR ho ih;by_cases hlo:op < 1
      ·(repeat' (first | (simp only [↓ZI,ZJ,ptrV,ZnW,ZnY,ZU,ZM,ZnZ,undef,ZZ,Yc, *]) | (refine ZP ?_) | (refine ZK fun zr zh=>?_; have zg:=zh; (try simp only [Zn2] at zg)) | (exact Zn1 _) | (refine Zn6 ?_ ?_) | (with_reducible refine And.intro ?_ ?_)))
       all_goals first
        | rw [hR'.out]
        | (rename_i r3 n3 n3'; exact (Zn5 n3).of_set zg.2)
      ·have hhi:5 < op:=by omega
       (repeat' (first | (simp only [↓ZI,ZJ,ptrV,ZnW,ZnY,ZM,ZnZ,undef,ZZ,Yc, *]) | (refine ZP ?_) | (refine ZK fun zr zh=>?_; have zg:=zh; (try simp only [Zn2] at zg)) | (exact Zn1 _) | (refine Zn6 ?_ ?_) | (with_reducible refine And.intro ?_ ?_)))
       all_goals first
        | rw [hR'.out]
        | (rename_i r3 n3 n3'; exact (Zn5 n3).of_set zg.2)
theorem rsd_ok (p:Pr) (hpc:p.cons.length≤1099511627776) (hpf:p.funs.length≤1099511627776):∀ (n:Nat) (e:Ex) (vars:List ByteArray),e.sz < n→vars.length + e.sz≤1099511627776→PureF Tryz.prog 55 [prV p,exV e,strsV vars] (iV (e.sdF p vars)):=by
 intro n
 induction n with
 | zero=>intro e vars h0; omega
 | succ n ih =>
   intro e vars h0 hs;have z:=e.sz_eq;have hkl:=YC e.kids;refine rsd_node (nk:=e.kids.length) (ac:=atCo p.cons e.name) (af:=atFu p.funs e.name) (hb:=hasF vars e.name) (by omega) (by omega) rfl (fun vars' hl i h=>?_) (Zno p e.name hpc) (Zbv p e.name hpf) ?_ (ZmI vars e.name (by omega)) (sdOwn p e vars) rfl (e.sdF_eq p vars)
   ·have:=Yl (Zn9 h)
    exact ih _ _ (by omega) (by omega)
   ·rcases Wm (fun c:Co=>decide (c.name=e.name)) p.cons with ⟨h,_⟩ | ⟨j,h,hj,_⟩
    ·exact .inl h
    ·exact .inr ⟨j,h,hj⟩
theorem Ziv {p:Pr} {e:Ex} (hp:RPrOk p) (hs:e.sz≤1099511627776):PureF Tryz.prog 30 [prV p,exV e] (iV (Wo p e)):=by
 have hck:=Zll hp;have hsz:=Zjb e (by omega)
 have hsd:∀ (H:AH) (K:VE→AH→Prop),K (.ret (iV (e.sdF p []))) H→Yh Tryz.prog 55 [.agg [cosV p.cons,fusV p.funs],.agg [iV e.op,sV e.name,encS exE e.kids],.lit (.slice none 0 0)] H K:=fun H K hK =>
  YM (Zod (Zoq _ _) (Zod (Zoq _ _) (Zod (GhV.nil _) (GhL.nil _)))) ((rsd_ok p hp.cons hp.funs (e.sz + 1) e [] (by omega) (by simpa using hs)).use hK)
 refine Zoj fun H=>?_
 refine ZN fd30 (by simp) ?_;delta c30 Zj Zf Zb Zo Zr Zc Za Zm Zh;obtain ⟨R,hR⟩:∃ R,R=Wo p e:=⟨_,rfl⟩
 rw [← hR];unfold Wo at hR;clear hp hs;by_cases hz:Ji p=0
 ·rw [hz] at hck;rw [if_pos hz] at hR;clear hz;by_cases h1:5000 < e.sz
  ·have h1':(5000:Int) < (e.sz:Int):=by omega
   rw [if_pos h1] at hR;replace hR:=Zn0 hR
   (repeat' (first | (simp only [↓ZI,ZJ,ZV,ptrV,ZnW,ZnY,ZM,ZnZ,undef,YI,Yp,ZnL,ZhR, *]) | (refine ZP ?_) | (refine ZK fun zr zh=>?_; have zg:=zh; (try simp only [Zn2] at zg)) | (exact Zn1 _) | (refine Zn6 ?_ ?_) | (refine Zn3 (hck) ?_) | (refine Zn3 (hsz) ?_) | (with_reducible refine And.intro ?_ ?_)))
   all_goals first
    | rw [hR.out]
    | (rename_i r3 n3 n3'; exact (Zn5 n3).of_set zg.2)
  ·have h1':¬ (5000:Int) < (e.sz:Int):=by omega
   rw [if_neg h1] at hR;by_cases h2:200 < e.dp
   ·have h2':(200:Int) < (e.dp:Int):=by omega
    rw [if_pos h2] at hR;replace hR:=Zn0 hR
    (repeat' (first | (simp only [↓ZI,ZJ,ZV,ptrV,ZnW,ZnY,ZM,ZnZ,undef,YI,Yp,ZnL,ZhR, *]) | (refine ZP ?_) | (refine ZK fun zr zh=>?_; have zg:=zh; (try simp only [Zn2] at zg)) | (exact Zn1 _) | (refine Zn6 ?_ ?_) | (refine Zn3 (hck) ?_) | (refine Zn3 (hsz) ?_) | (with_reducible refine And.intro ?_ ?_)))
    all_goals first
     | rw [hR.out]
     | (rename_i r3 n3 n3'; exact (Zn5 n3).of_set zg.2)
   ·have h2':¬ (200:Int) < (e.dp:Int):=by omega
    rw [if_neg h2] at hR;replace hR:=Zn0 hR
    (repeat' (first | (simp only [↓ZI,ZJ,ZV,ptrV,ZnW,ZnY,ZM,ZnZ,undef,YI,Yp,ZnL,ZhR,en_55, *]) | (refine ZP ?_) | (refine ZK fun zr zh=>?_; have zg:=zh; (try simp only [Zn2] at zg)) | (exact Zn1 _) | (refine Zn6 ?_ ?_) | (refine Zn3 (hck) ?_) | (refine Zn3 (hsz) ?_) | (refine hsd _ _ ?_) | (with_reducible refine And.intro ?_ ?_)))
    all_goals first
     | rw [hR.out]
     | (rename_i r3 n3 n3'; exact (Zn5 n3).of_set zg.2)
 ·rw [if_neg hz] at hR;replace hR:=Zn0 hR
  (repeat' (first | (simp only [↓ZI,ZJ,ptrV,ZnW,ZnY,ZM,ZnZ,undef,YI,ZnL, *]) | (refine ZP ?_) | (refine ZK fun zr zh=>?_; have zg:=zh; (try simp only [Zn2] at zg)) | (exact Zn1 _) | (refine Zn6 ?_ ?_) | (refine Zn3 (hck) ?_) | (with_reducible refine And.intro ?_ ?_)))
  all_goals first
   | rw [hR.out]
   | (rename_i r3 n3 n3'; exact (Zn5 n3).of_set zg.2)
end Go.PV.YtglpmlbbaedbiaaGreat
end
section
open Go.PV.AH renaming set_none→Zn2,set_same→Zn4,get→Zn8,set_ne→Zoa,del_ne→Zov
open Go.PV.GhL renaming cons→Zod
open Go.PV.GhV renaming forget→Zoi,refl→Zoq
open Go.PV.Hold renaming mk→Zn0
open Go.PV.PureF renaming forget→Zoj,use→Zn3
open Go.PV.SubH renaming new→Zn5,refl→Zn1,of_set→Zn6
open Int renaming reduceLE→Zok,toNat_zero→ZoI,reduceEq→Zoh
open List renaming drop_zero→ZoB,drop→ZnZ,length_cons→Zox,length_append→Zow,eq_nil_of_length_eq_zero→ZoM,nil_append→ZoV,drop_eq_getElem_cons→Zoz,all_cons→ZoT,drop_eq_nil_of_le→Zop,getElem_mem→Zn9
open Nat renaming reduceEqDiff→ZnW,reduceLT→ZnY,reduceAdd→Zn7,reduceMul→Zor,reduceLeDiff→Zof,zero_mul→ZoK,zero_add→Zot
open Option renaming bind_some→Zol,map_some→Zog,map_none→ZoC
set_option maxRecDepth 20000
set_option maxHeartbeats 8000000
namespace Go.PV
theorem Zlo {cx:Cx} {Q:APost} {A:AF} {H:AH} {a:ACode} (hQ:Zau Q) (I:Nat→AF→AH→Prop) {n0:Nat} (h0:I n0 A H)
 (round:∀ n A H,I n A H→∃ A1 H1,Ghost cx.N A H A1 H1∧∀ R:AF→AH→Prop,(∀ m A' H',m < n→I m A' H'→R A' H')→vc cx a (thenA R Q) A1 H1):ACx cx (.loop a) Q A H:=by
 classical
 have hm:∀ A H,∃ m,(∃ n,I n A H)→I m A H∧∀ k,k < m→¬ I k A H:=fun A H=>by
  by_cases h:∃ n,I n A H
  ·obtain ⟨n,hn⟩:=h;obtain ⟨m,h1,h2⟩:=least (p:=fun n=>I n A H) hn;exact ⟨m,fun _=>⟨h1,h2⟩⟩
  ·exact ⟨0,fun h'=>absurd h' h⟩
 refine Zna hQ (fun A H=>∃ n,I n A H) (fun A H=>Classical.choose (hm A H)) ⟨n0,h0⟩ fun A H hI=>?_
 have hc:=Classical.choose_spec (hm A H) hI;obtain ⟨A1,H1,hg,hr⟩:=round _ A H hc.1;refine ⟨A1,H1,hg,hr _ fun m A' H' hlt hI'=>⟨⟨m,hI'⟩,?_⟩⟩;have hc':=Classical.choose_spec (hm A' H') ⟨m,hI'⟩;refine Nat.lt_of_le_of_lt (Nat.le_of_not_lt fun hk=>hc'.2 m hk hI') hlt
end Go.PV
namespace Go.PV.YtglpmlbbaedbiaaGreat
open Go Go.Proofs
theorem ZmU {H0 H:AH} {t:Nat→VV} {r sp:Nat} {a b c x:VV} {e':TypeId} (h4:t 4=ptrV r 0) (k4:H r=some (.cells e' [a,b,c] sp)) (hg:GhV H (.agg [a,b,c]) H0 x):YW Tryz.prog [.cell 4 28] (fun e H'=>∃ y,e=.ret y∧GhV H' y H0 x) .ret ⟨t,[]⟩ H :=
 Yk rfl (by simp only [resV,YO,YN,Yp,h4,k4,ptrV,ZoB,Xt,Zol,Zog,tupV]) ⟨_,rfl,hg⟩
theorem ZkL (ex:Bool) (e:Ex) (l:List Ex) (hl:l.length≤1099511627776):PureF Tryz.prog 74 [exV e,.slice ex l.length (encC exE l)] (exV (Xl e l)):=by
 refine Xo.pure fun H=>?_
 refine ZN fd74 (by simp) ?_;delta c74 Zj Zi Za Ze Zm Zr Zb Zg Zq Zl;unfold Xl;by_cases h0:l.length=0
 ·have h0':(l.length:Int)=0:=by omega
  rw [if_pos h0];clear h0
  (repeat' (first | (simp only [↓ZI,ZJ,ptrV,intV,ZnW,ZnY,Zn7,reduceCtorEq,ZM,setAt,ZnZ,undef,Yp,YJ,Yi,Yf, *]) | (refine ZK fun zr zh=>?_; have zg:=zh; (try simp only [Zn2] at zg))))
  rename_i r2 n2 n2';exact ZmU (e':=28) (sp:=0) (by simp only [ZL,ZnW,if_true,if_false, *]<;>rfl) (Zn4 _ _ _) (Zoi ((Zn5 n2).of_set zg.2) _)
 ·have h0':¬ (l.length:Int)=0:=by omega
  rw [if_neg h0]
  (repeat' (first | (simp only [↓ZI,ZJ,ptrV,intV,ZnW,ZnY,Zn7,Zor,Zof,reduceCtorEq,ZM,fillV,setAt,ZnZ,undef,ZQ,ZQ,Yp,Yi,Yf, *]) | (refine ZK fun zr zh=>?_; have zg:=zh; (try simp only [Zn2] at zg))))
  rename_i r2 n2 n2';refine Xy Yf Yi rfl (by omega) rfl (XZ (enc:=exE) (k:=3) Wx _ ex _) (Xv ZbP _) (by omega) (by omega) (fun h=>absurd h h0) (fun _ v' H' ho=>?_);have k4:=ho.sub _ _ (Zn4 _ _ _);have hc1:=ho.cells.1;have hc2:=ho.cells.2;have e1:[iV e.op,sV e.name,encS exE e.kids] ++ encC exE l=encC exE (e :: l):=by rw [Yr,XC]
  have e2:1 + l.length=(e :: l).length:=by rw [Zox]; omega
  have ho':=ho.put (Zn4 _ _ _) (.cells 28 [iV 4,sV noNm,v'] 0);rw [e1,e2,AH.set_set] at ho';replace ho':=Zn0 ho';clear ho e1 e2
  (repeat' (first | (simp only [↓ZI,ZJ,ZnW,ZnY,Zn7,Zof,ZX,fillV,setAt,ZX,YJ,Wt, *])))
  refine ZmU (e':=28) (sp:=0) (by simp only [ZL,ZnW,if_true,if_false, *]<;>rfl) (Zn4 _ _ _) ?_;exact GhV.agg (Zod (Zoq _ _) (Zod (Zoq _ _) (Zod (GhV.back ho'.out ((Zn5 n2).of_set zg.2)) (GhL.nil _))))
theorem ZmV {H0 H:AH} {t:Nat→VV} {r:Nat} {x:Ex} {e':TypeId} (h2:t 2=ptrV r 0) (k2:H r=some (.cells e' [iV x.op,sV x.name,encS exE x.kids] 0)) (hs:SubH H0 H):YW Tryz.prog [.cell 2 28] (fun e H'=>e=.ret (exV x)∧SubH H0 H') .ret ⟨t,[]⟩ H :=
 Yk rfl (by simp only [resV,YO,YN,Yp,h2,k2,ptrV,ZoB,Xt,Zol,Zog,tupV]) ⟨rfl,hs⟩
def FlI (H0:AH) (r1 r2:Nat) (p:Pr) (b:List ByteArray) (F:Ex) (n:Nat) (A:AF) (H':AH):Prop :=
 A.d=[]∧A.t 1=ptrV r1 0∧A.t 2=ptrV r2 0∧∃ e':Ex,F=e'.flat∧e'.sdF p b=0∧e'.sz≤1099511627776∧e'.sz=n ∧
  ((SubH H0 H'∧(∃ a b c,H' r2=some (.cells 28 [a,b,c] 0))∧H' r1=some (.cells 28 [iV e'.op,sV e'.name,encS exE e'.kids] 0)) ∨
   ∃ v Hb Hx,SubH H0 Hx∧(∃ a b c,Hx r2=some (.cells 28 [a,b,c] 0))∧InB Hx H' r1 28 [iV e'.op,sV e'.name] [] 28 3 e'.kids.length (encC exE e'.kids) v Hb)
theorem ZkM {p:Pr} {b:List ByteArray} {e:Ex} (hsd:e.sdF p b=0) (hs:e.sz≤1099511627776):PureF Tryz.prog 72 [exV e] (exV e.flat):=by
 refine Zoj fun H0=>?_
 refine ZN fd72 (by simp) ?_;delta c72 Zj Zi;obtain ⟨F,hF⟩:∃ F,F=e.flat:=⟨_,rfl⟩
 rw [← hF];replace hF:=Zn0 hF
 (repeat' (first | (simp only [↓ZI,ZJ,ptrV,ZnY,ZM,undef,Yi, *]) | (refine ZK fun zr zh=>?_; have zg:=zh; (try simp only [Zn2] at zg))))
 rename_i r1 n1 n1';have d12:=zg.1.2;have d21:=zg.1.1;have g2:=zg.2
 refine Jz (fun t H=>t 1=ptrV r1 0∧t 2=ptrV zr 0∧SubH H0 H∧(∃ a b c,H zr=some (.cells 28 [a,b,c] 0))∧H r1=some (.cells 28 [iV e.op,sV e.name,encS exE e.kids] 0))
  ⟨(by simp only [ZL,ZnW,if_true,if_false, *]<;>rfl),(by simp only [ZL,ZnW,if_true,if_false, *]<;>rfl),(Zn5 n1).of_set zg.2,⟨_,_,_,Zn4 _ _ _⟩,(by simp only [Zn8, *,if_true,if_false]<;>rfl)⟩ ?_
 clear zh zg;generalize zr=r2 at *
 rintro t B ⟨h1,h2,hsb,k2,k1⟩;refine Zlo (fun _ _ _ h=>h) (FlI H0 r1 r2 p b F) (n0:=e.sz) ⟨rfl,h1,h2,e,hF.out,hsd,hs,rfl,.inl ⟨hsb,k2,k1⟩⟩ ?_;clear h1 h2 hsb k2 k1 hF hsd hs;rintro n ⟨t,d⟩ H1 ⟨rfl,h1,h2,e',hF,hsd,hs,hn,hfm⟩;dsimp only at h1 h2
 have hgh:∃ H',Ghost 29 ⟨t,[]⟩ H1 ⟨t,[]⟩ H'∧SubH H0 H'∧(∃ a b c,H' r2=some (.cells 28 [a,b,c] 0))∧H' r1=some (.cells 28 [iV e'.op,sV e'.name,encS exE e'.kids] 0):=by
  rcases hfm with ⟨q1,q2,q3⟩ | ⟨v,Hb,Hx,q1,⟨a,b',c,q2⟩,q3⟩
  ·exact ⟨H1,Ghost.forget (Zn1 _),q1,q2,q3⟩
  ·refine ⟨_,q3.ghost 29 ⟨t,[]⟩,q1.of_set (by assumption),⟨a,b',c,by rw [Zoa _ _ d21]; exact q2⟩,Zn4 _ _ _⟩
 obtain ⟨H',hg,hsb,⟨a,b',c,k2⟩,k1⟩:=hgh;refine ⟨_,H',hg,fun R hRR=>?_⟩;clear hg hfm;delta b72_1 Zd Zb Zm Za Zp Zr Zq Zl Zc Zg;cases hi:e'.inner with
 | some x =>
   obtain ⟨k,r⟩:=x;obtain ⟨i1,i2,i3⟩:=Ex.inner_some hi;have hz:=Ex.inner_sz hi;have hz2:=Ex.sz_eq (Ex.mk 4 noNm (k.kids ++ r))
   change _=1 + exsSz (k.kids ++ r) at hz2
   have hkl:=YC (k.kids ++ r);rw [Zow] at hkl
   have hpos:0 < k.kids.length + r.length:=by
    obtain ⟨_,k1',k2',r',hk'⟩:=Zdy hsd i1;rw [i2] at hk';cases hk'
    simp; omega
   have hnew:=Zn0 (show (Ex.mk 4 noNm (k.kids ++ r)).sz < n∧F=(Ex.mk 4 noNm (k.kids ++ r)).flat∧(Ex.mk 4 noNm (k.kids ++ r)).sdF p b=0∧(Ex.mk 4 noNm (k.kids ++ r)).sz≤1099511627776 from
    ⟨by omega,by rw [hF,Ex.flat_some hi],Zhc hi hsd,by omega⟩)
   have hkN:k.kids.length + r.length≤1099511627776:=by omega
   rw [i1,i2] at k1;have ek:encS exE (k :: r)=.slice false (r.length + 1) (iV k.op :: sV k.name :: encS exE k.kids :: encC exE r):=by rw [encS,Yr,XC]; rfl
   rw [ek,i3] at k1;clear hz hz2 hkl hF hsd hs hn ek i1 i2;replace hRR:=Zn0 hRR;have hl0:(0:Int) < ((r.length + 1:Nat):Int):=by omega
   (repeat' (first | (simp only [↓ZI,ZJ,ptrV,ZnW,ZnY,Zn7,Zof,fillV,ZnZ,Zok,ZQ,ZoI,ZoK,ZQ,ZZ,Yb,Yc,Yv,Yi,Yf, *])))
   refine (OutE.start (Zn1 _)).append Yf Yi rfl (by omega) (XZ (enc:=exE) (k:=3) Wx _ false k.kids) (Xv ZbP k.kids) (by omega) (by omega) (fun h0=>by rw [ZoM h0]; rfl) (fun v' H2 ho=>?_);rw [Zot,ZoV] at ho;have w1:=ho.sub _ _ k1;replace ho:=Zn0 ho
   (repeat' (first | (simp only [↓ZI,ZJ,ptrV,ZnW,ZnY,Zor,Zof,ZnZ,Zok,Int.reduceToNat,YB,ZoC,Zog,YV,idxV,idxOk,imp_self,Yb,Yv,Yf, *])))
   rw [Nat.add_sub_cancel];refine ho.out.append Yf Yi rfl (by omega) (XZ (enc:=exE) (k:=3) Wx _ false r) (Xv ZbP r) (by omega) (by omega) (fun h0=>by rw [ZoM h0]; rfl) (fun v2 H3 ho2=>?_);rw [← Yo,← Zow] at ho2;have w2:=ho2.sub _ _ k1;have hc1:=ho2.cells.1;have hc2:=ho2.cells.2;replace ho2:=Zn0 ho2;clear w1
   (repeat' (first | (simp only [↓ZI,ZJ,ptrV,ZnW,ZnY,Zn7,Zof,ZX,fillV,setAt,ZX,YJ,Wt, *])))
   have hnw:=hnew.out;rcases ho2.out with ⟨_,h0,_⟩ | ⟨Hb,g1,g2'⟩
   ·rw [Zow] at h0; omega
   ·refine hRR.out _ _ _ hnw.1 ⟨rfl,by simp only [ZL,ZnW,if_false]; exact h1,by simp only [ZL,ZnW,if_false]; exact h2,Ex.mk 4 noNm (k.kids ++ r),hnw.2.1,hnw.2.2.1,hnw.2.2.2,rfl,.inr ⟨v2,Hb.set r1 (.cells 28 [iV 4,sV noNm,v2] 0),H'.del r1,hsb.del n1,⟨a,b',c,by rw [Zov _ d21]; exact k2⟩,⟨g2'.put (g1 _ _ k1) _,Zn4 _ _ _,?_,AH.del_same _ _⟩⟩⟩;refine Zn6 ?_ (AH.del_same _ _);intro x y hxy;rw [AH.del_get] at hxy;split at hxy
    ·cases hxy
    ·exact g1 _ _ hxy
 | none =>
   by_cases h4:e'.op=4
   ·obtain ⟨hnn,k,k2',r,hk⟩:=Zdy hsd h4;have hk4:¬ k.op=4:=fun h=>by simp [Ex.inner,h4,hk,h] at hi
    have ek:encS exE (k :: k2' :: r)=.slice false (r.length + 2) (iV k.op :: sV k.name :: encS exE k.kids :: encC exE (k2' :: r)):=by rw [encS,Yr,XC]; rfl
    have e1:=Ex.flat_none hi;rw [e1] at hF;replace hF:=Zn0 hF;rw [h4,hk,ek] at k1;have hl0:(0:Int) < ((r.length + 2:Nat):Int):=by omega
    replace ek:=Zn0 ek;clear hi hsd hs hn e1
    (repeat' (first | (simp only [↓ZI,ZJ,ptrV,ZnW,ZnY,ZnZ,Zok,ZoI,ZoK,ZZ,Yb,Yc,Yv,Yf, *]) | (refine Ya rfl (fun _ _ _ h=>h) ?_)))
    delta c72_1 Zb Zg
    (repeat' (first | (simp only [↓ZI,ZJ,ptrV,ZnW,ZnY,Zn7,setAt,ZnZ,Yp,YJ, *])))
    refine ZmV (r:=r2) (x:=F) (e':=28) (by simp only [ZL,ZnW,if_false]; exact h2) ?_ (hsb.of_set g2);rw [Zn4,hF.out,h4,hk,ek.out,hnn]
   ·have e1:=Ex.flat_none hi;rw [e1] at hF;replace hF:=Zn0 hF;clear hi hsd hs hn e1
    (repeat' (first | (simp only [↓ZI,ZJ,ptrV,ZnW,ZnY,ZU,ZM,ZnZ,undef,ZZ,Yc, *]) | (refine Ya rfl (fun _ _ _ h=>h) ?_)))
    delta c72_1 Zb Zg
    (repeat' (first | (simp only [↓ZI,ZJ,ptrV,ZnW,ZnY,Zn7,setAt,ZnZ,Yp,YJ, *])))
    refine ZmV (r:=r2) (x:=F) (e':=28) (by simp only [ZL,ZnW,if_false]; exact h2) ?_ (hsb.of_set g2);rw [Zn4,hF.out]
theorem ZkN {p:Pr} {l:List Ex} (ex:Bool) (hl:l.length≤1099511627776) (hk:∀ i (h:i < l.length),PureF Tryz.prog 40 [prV p,exV l[i]] (boolV (l[i].isV p))):PureF Tryz.prog 71 [prV p,.slice ex l.length (encC exE l)] (boolV (l.all (·.isV p))):=by
 refine Zoj fun H=>?_
 refine ZN fd71 (by simp) ?_;delta c71 Zj Zq Zf;obtain ⟨R,hR⟩:∃ R,R=l.all (·.isV p):=⟨_,rfl⟩
 rw [← hR];replace hR:=Zn0 hR
 (repeat' (first | (simp only [↓ZI,ZJ,ptrV,boolV,ZnY,ZM,undef, *]) | (refine ZK fun zr zh=>?_; have zg:=zh; (try simp only [Zn2] at zg))))
 refine ZW (fun _ _ _ h=>h) (fun A H'=>SubH H H'∧H' zr=some (.cells 25 [cosV p.cons,fusV p.funs] 0)∧A.d=[]∧A.t 1=.slice ex l.length (encC exE l)∧A.t 2=ptrV zr 0∧∃ i:Nat,i≤l.length∧A.t 5=iV i∧R=(l.drop i).all (·.isV p))
  (fun A _=>match A.t 5 with | .lit (.int _ i)=>((l.length:Int) - i).toNat | _=>0) ?_ ?_
 ·exact ⟨Zn5 zh,Zn4 _ _ _,rfl,(by simp only [ZL,ZnW,if_false, *]<;>rfl),(by simp only [ZL,ZnW,if_true,if_false, *]<;>rfl),0,by omega,(by simp only [ZL,ZnW,if_true,if_false, *]<;>rfl),hR.out⟩
 ·clear hR;rintro ⟨t,d⟩ H' ⟨hs,k2,rfl,h1,h2,i,hi,h5,hR⟩;dsimp only at h1 h2 h5;delta b71_1 Za Ze Zn Zr Zb Zk Zo Zq Zm Zc;by_cases hlt:i < l.length
  ·have hil:(i:Int) < (l.length:Int):=by omega
   have hdi:=XB hlt;have hki:=hk i hlt;rw [Zoz hlt,ZoT] at hR;generalize hvi:l[i].isV p=vi at *
   replace hR:=Zn0 hR;clear hk;cases vi with
   | true =>
     (repeat' (first | (simp only [↓ZI,ZJ,ptrV,intV,boolV,ZnW,ZnY,reduceCtorEq,ZnZ,YI,Yp,Yf,Zba, *]) | (refine ZS mixed (fun _ _ _ _ e h=>⟨e.trans h.1,h.2⟩) _ (Zn1 _) ?_) | (refine Zn3 (hki) ?_) | (with_reducible refine And.intro ?_ ?_)))
     all_goals try rw [ZR (n:=(i:Int) + 1) (by omega) (by omega)]
     all_goals first
      | omega
      | exact ⟨i + 1,by omega,rfl,by rw [hR.out]; rfl⟩
      | trace_state
   | false =>
     (repeat' (first | (simp only [↓ZI,ZJ,ptrV,intV,boolV,ZnW,ZnY,reduceCtorEq,ZnZ,YI,Yp,Yf,Zba, *]) | (refine ZP ?_) | (refine ZS mixed (fun _ _ _ _ e h=>⟨e.trans h.1,h.2⟩) _ (Zn1 _) ?_) | (refine Zn3 (hki) ?_)))
     all_goals first
      | exact hs
      | (rw [hR.out]; rfl)
      | trace_state
  ·have hil:¬ (i:Int) < (l.length:Int):=by omega
   rw [Zop (by omega)] at hR;have hR:R=true:=hR;rw [hR];clear hR hk
   (repeat' (first | (simp only [↓ZI,ZJ,ptrV,intV,ZnW,ZnY,reduceCtorEq,Yf, *]) | (refine Ya rfl (fun _ _ _ h=>h) ?_)))
   delta c71_1 Zq
   (repeat' (first | (simp only [↓ZI,ZJ,ZnW,ZnY, *]) | (refine ZP ?_)))
   all_goals try exact hs
theorem Zje {p:Pr} (hnd:NdP p) (hpf:p.funs.length≤1099511627776):∀ (n:Nat) (e:Ex) (b:List ByteArray),e.sz < n→e.sz≤1099511627776→e.sdF p b=0→PureF Tryz.prog 40 [prV p,exV e] (boolV (e.isV p)):=by
 intro n
 induction n with
 | zero=>intro e b h0; omega
 | succ n ih =>
   intro e b h0 hs hsd;have z:=e.sz_eq;have hkl:=YC e.kids;have hkN:e.kids.length≤1099511627776:=by omega
   have hsd':=Xq.1 hsd;have hown:=XR.1 hsd'.1;have hfn:=Zbv p e.name hpf;rw [Ex.isV_eq];refine Zoj fun H=>?_
   refine ZN fd40 (by simp) ?_;delta c40 Zj Zq Zd Zb Zm Zc Zr Zo Zk Zg Zi Za Zp;by_cases h5:e.op=5
   ·rw [if_pos h5];clear ih hsd hsd' hown hfn
    (repeat' (first | (simp only [↓ZI,ZJ,ptrV,boolV,ZnW,ZnY,ZM,ZnZ,undef,ZZ,Yc, *]) | (refine ZP ?_) | (refine ZK fun zr zh=>?_; have zg:=zh; (try simp only [Zn2] at zg)) | (exact Zn1 _) | (refine Zn6 ?_ ?_)))
   ·rw [if_neg h5];by_cases h2:e.op=2
    ·rw [if_pos h2];obtain ⟨j,hj,hat,har,_⟩:=ZdD hnd (hown.2.1 h2);rw [har];rw [hat] at hfn;have hjd:=WE hj;have hj0:(0:Int)≤(j:Int):=by omega
     have hjl:(j:Int) < (p.funs.length:Int):=by omega
     clear ih hsd hsd' hown h5 hat har
     (repeat' (first | (simp only [↓ZI,ZJ,ptrV,boolV,ZnW,ZnY,ZM,ZnZ,undef,Zoh,ZZ,Xj,Yq,WG,Yc,Wz,YI,Ye,Wd,Zbo, *]) | (refine ZP ?_) | (refine ZS mixed (fun _ _ _ _ e h=>⟨e.trans h.1,h.2⟩) _ (Zn1 _) ?_) | (refine ZK fun zr zh=>?_; have zg:=zh; (try simp only [Zn2] at zg)) | (exact Zn1 _) | (refine Zn6 ?_ ?_) | (refine Zn3 (hfn) ?_) | (with_reducible refine And.intro ?_ ?_)))
    ·rw [if_neg h2];by_cases h3:e.op=3
     ·rw [if_pos h3];have hall:=ZkN (p:=p) (l:=e.kids) false hkN (fun i h=>ih _ _ (by have:=Yl (Zn9 h); omega) (by have:=Yl (Zn9 h); omega) (hsd'.2 _ (Zn9 h)));clear ih hsd hsd' hown h5 h2 hfn
      (repeat' (first | (simp only [↓ZI,ZJ,ptrV,boolV,ZnW,ZnY,ZM,ZnZ,undef,Zoh,ZZ,Yb,Yc,YI,Yv,en_71, *]) | (refine ZP ?_) | (refine ZK fun zr zh=>?_; have zg:=zh; (try simp only [Zn2] at zg)) | (exact Zn1 _) | (refine Zn6 ?_ ?_) | (refine Zn3 (hall) ?_)))
     ·rw [if_neg h3];by_cases h4:e.op=4
      ·rw [if_pos h4];have hfl:=ZkM hsd hs;have hfz:=e.flat_sz;have hfs:=Zjd hsd;have hf4:=e.flat_op h4;generalize e.flat=F at *
       obtain ⟨hFn,k,k2,r,hFk⟩:=Zdy hfs hf4;have hfs':=(Xq.1 hfs).2;rw [hf4] at hfs';simp only [show ¬ (4:Int)=5 by decide,if_false] at hfs';have hks:=hfs' k (by rw [hFk]; simp);have hFz:=F.sz_eq;rw [hFk] at hFz;have hrl:=YC (k2 :: r);rw [exsSz] at hFz
       have hr:∀ x∈k2 :: r,x.sz < n∧x.sz≤1099511627776∧x.sdF p b=0:=fun x hx=>by
        have:=Yl hx
        exact ⟨by omega,by omega,hfs' x (by rw [hFk]; simp [hx])⟩
       rw [hFk];dsimp only;generalize k2 :: r=r' at *
       have hrN:r'.length≤1099511627776:=by omega
       have ek:encS exE F.kids=.slice false (r'.length + 1) (iV k.op :: sV k.name :: encS exE k.kids :: encC exE r'):=by rw [hFk,encS,Yr,XC]; rfl
       have q1:VV.agg [iV 4,sV e.name,encS exE e.kids]=exV e:=by show _=VV.agg [iV e.op,sV e.name,encS exE e.kids]; rw [h4]
       have q2:VV.agg [iV 4,sV F.name,.slice false (r'.length + 1) (iV k.op :: sV k.name :: encS exE k.kids :: encC exE r')]=exV F:=by show _=VV.agg [iV F.op,sV F.name,encS exE F.kids]; rw [hf4,ek]
       have hfl':PureF Tryz.prog 72 [.agg [iV 4,sV e.name,encS exE e.kids]] (.agg [iV 4,sV F.name,.slice false (r'.length + 1) (iV k.op :: sV k.name :: encS exE k.kids :: encC exE r')]):=by rw [q1,q2]; exact hfl
       have hall:=ZkN (p:=p) (l:=r') false hrN (fun i h=>by
        obtain ⟨q1,q2,q4⟩:=hr _ (Zn9 h);exact ih _ _ q1 q2 q4)
       have hl0:(0:Int) < ((r'.length + 1:Nat):Int):=by omega
       have hw:IntKind.i64.wrap (((r'.length + 1:Nat):Int) - 1)=(r'.length:Int):=by rw [ZR (by omega) (by omega)]; omega
       by_cases hk2:k.op=2
       ·obtain ⟨j,hj,hat,har,_⟩:=ZdD hnd ((XR.1 (Xq.1 hks).1).2.1 hk2);have hfk:=Zbv p k.name hpf;rw [hat] at hfk;have hjd:=WE hj;have hj0:(0:Int)≤(j:Int):=by omega
        have hjl:(j:Int) < (p.funs.length:Int):=by omega
        rw [har,hk2];rw [hk2] at hfl';clear ih hsd hsd' hown h5 h2 h3 hfl hfs hf4 hFn hFk hfs' hks hFz hrl hr ek q1 q2 hfn hat har
        (repeat' (first | (simp only [↓ZI,ZJ,ptrV,intV,boolV,ZnW,ZnY,Zn7,Zor,Zof,Bool.true_and,reduceCtorEq,ZU,ZM,setAt,ZnZ,undef,Zoh,Zok,ZoI,ZoK,Int.reduceToNat,Nat.add_sub_cancel,YB,ZoC,Zog,YV,idxV,idxOk,imp_self,ZZ,Xj,Yq,WG,Yb,Yc,Wz,YI,Ye,Yv,Yp,YJ,Yi,Wd,Yf,Zbo,en_71,en_72, *]) | (refine Zct ?_ ?_<;>intro) | (refine ZP ?_) | (refine ZS mixed (fun _ _ _ _ e h=>⟨e.trans h.1,h.2⟩) _ (Zn1 _) ?_) | (refine ZK fun zr zh=>?_; have zg:=zh; (try simp only [Zn2] at zg)) | (exact Zn1 _) | (refine Zn6 ?_ ?_) | (refine Zn3 (hfl') ?_) | (refine Zn3 (hfk) ?_) | (refine Zn3 (hall) ?_) | (with_reducible refine And.intro ?_ ?_)))
       ·clear ih hsd hsd' hown h5 h2 h3 hfl hfs hf4 hFn hFk hfs' hks hFz hrl hr ek q1 q2 hfn
        (repeat' (first | (simp only [↓ZI,ZJ,ptrV,boolV,ZnW,ZnY,Zn7,ZU,ZM,setAt,ZnZ,undef,Zoh,Zok,ZoI,ZoK,ZZ,Yb,Yc,Yv,Yp,YJ,Yi,Yf,Zbo,en_71,en_72, *]) | (refine ZP ?_) | (refine ZS mixed (fun _ _ _ _ e h=>⟨e.trans h.1,h.2⟩) _ (Zn1 _) ?_) | (refine ZK fun zr zh=>?_; have zg:=zh; (try simp only [Zn2] at zg)) | (exact Zn1 _) | (refine Zn6 ?_ ?_) | (refine Zn3 (hfl') ?_) | (with_reducible refine And.intro ?_ ?_)))
      ·rw [if_neg h4];clear ih hsd hsd' hown hfn
       (repeat' (first | (simp only [↓ZI,ZJ,ptrV,boolV,ZnW,ZnY,ZM,ZnZ,undef,ZZ,Yc, *]) | (refine ZP ?_) | (refine ZK fun zr zh=>?_; have zg:=zh; (try simp only [Zn2] at zg)) | (exact Zn1 _) | (refine Zn6 ?_ ?_)))
end Go.PV.YtglpmlbbaedbiaaGreat
end
