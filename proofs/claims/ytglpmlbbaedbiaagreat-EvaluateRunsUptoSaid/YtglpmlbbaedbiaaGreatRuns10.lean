/- Part 10 of 11 of what the proof of Runs needs. -/
import Derived.Test.YtglpmlbbaedbiaaGreatRuns9
import Derived.Test.YtglpmlbbaedbiaaGreatRuns5
import Derived.Test.YtglpmlbbaedbiaaGreatRuns8
import Derived.Test.YtglpmlbbaedbiaaGreatRuns7
import Derived.Laws.Strings
set_option linter.unusedVariables false
set_option linter.unusedSimpArgs false
set_option linter.defProp false
section
open Bool renaming and_eq_true→ZqA,false_eq_true→ZqP
open Go.PV.AH renaming get→ZpU,set_none→ZpO
open Go.PV.PureF renaming forget→Zp4,use→ZpQ
open Go.PV.SubH renaming refl→ZpN,of_set→ZpS,new→ZpR
open List renaming getElem_mem→ZpW,map_cons→Zp3,map_nil→Zqa,getD_cons_zero→ZqM,getD_cons_succ→Zqw,getD_nil→Zqx,drop→ZpL
open Nat renaming reduceEqDiff→ZpI,reduceLT→ZpJ,succ_ne_self→Zp7,zero_add→Zp2,add_zero→ZqB,reduceAdd→ZpT
open Option renaming bind_some→Zqg,map_some→Zp6
set_option maxRecDepth 20000
set_option maxHeartbeats 4000000
namespace Go.PV.YtglpmlbbaedbiaaGreat
open Go Go.Proofs
mutual
theorem Val.pl_sz (p:Pr):∀ v:Val,v.pl=true→(v.ex p).sz=(v.ex p).full
 | .built n ks,h=>by
   rw [Val.ex,Ex.full_eq,Ex.sz_eq];show 1+exsSz (ZL p ks)=if (3:Int)=9 then _ else 1+XQ (ZL p ks)
   rw [if_neg (by decide),ZjQ p ks h]
 | .clo _ _ _ _,h=>by cases h
 | .part _ _,h=>by cases h
theorem ZjQ (p:Pr):∀ l:List Val,Zb5 l=true→exsSz (ZL p l)=XQ (ZL p l)
 | [],h=>rfl
 | v::l,h=>by
   rw [Zb5,ZqA] at h;rw [ZL,exsSz,XQ,Val.pl_sz p v h.1,ZjQ p l h.2]
end
theorem Zgi (p:Pr) (e:Ex) (fu:Int):(runF p e fu).1.sz≤5000:=by
 have hz:zEx.sz≤5000:=by rw [Ex.sz_eq]; show 1+0≤5000; omega
 unfold runF endF;split
 ·split
  ·exact hz
  ·split
   ·exact hz
   ·rename_i c v _;split
    ·exact hz
    ·split
     ·rename_i h1 h2;rw [v.pl_sz p h2]; omega
     ·exact hz
 ·exact hz
noncomputable def Zi4 (p:Pr) (a b:Ex) (fu:Int):Bool × Int :=
 if (runF p a fu).2.2=0 then (if (runF p b fu).2.2=0 then ((runF p a fu).1.beq (runF p b fu).1,0) else (false,(runF p b fu).2.2)) else (false,(runF p a fu).2.2)
def eqX (x:Bool × Int):VV:=.tuple [boolV x.1,iV x.2]
theorem esame_ok (a:Ex):∀ b,a.sz≤1099511627776→b.sz≤1099511627776→PureF Tryz.prog 34 [exV a,exV b] (boolV (a.beq b)):=by
 refine Ex.ind (p:=fun a=>∀ b,a.sz≤1099511627776→b.sz≤1099511627776→PureF Tryz.prog 34 [exV a,exV b] (boolV (a.beq b))) (fun a ih b ha hb=>?_) a;have l1:=YN a.kids;have l2:=YN b.kids;have z1:=a.sz_eq;have z2:=b.sz_eq;have ih':∀ (i:Nat) (h:i<a.kids.length) (h':i<b.kids.length),PureF Tryz.prog 34 [exV a.kids[i],exV b.kids[i]] (boolV (a.kids[i].beq b.kids[i])):=fun i h h'=>ih _ (ZpW h) _ (by have:=Ya (ZpW h); omega) (by have:=Ya (ZpW h'); omega)
 have n1:a.kids.length≤1099511627776:=by omega
 have n2:b.kids.length≤1099511627776:=by omega
 clear ih z1 z2 l1 l2 ha hb;rw [a.beq_eq];refine Zp4 fun H=>?_
 refine ZE fd34 (by simp) ?_;delta c34 Zj Zq Zd Zb Zn Za Zp Zr Zc
 (repeat' (first | (refine equalEE n1 (p:=Ex.beq) (fun i h h' H' _=>FnAt.lit en_34 (ih' i h h')) ?_) | (simp only [↓Wg,↓XM,↓WX,↓Xe,↓Yf,↓Zag,↓JE,↓Zcf,↓Yi,↓Yu,↓Yr,↓Ys,↓Yt,↓YS,↓WZ,↓ZC,↓Xb,↓YH,↓Jh,↓Zah,↓Zbn,↓YA,↓Wr,↓ZdZ,↓Yb,↓XP,↓XF,↓XA,↓Xw,ptrV,boolV,Zp3,Zqa,ZqM,Zqw,Zqx,ite_true,ite_false,ZpI,ZpJ,ne_eq,not_false_eq_true,true_and,ZqP,Zp7,decide_true,decide_false,Bool.true_and,Bool.false_and,ZN,ZD,ZpU,eq_self,Zp2,ZqB,ZpL,Wi,YT,↓Zd3,XG,WY,XH,Xr,WO,undef,Yg,Ym,Yk,ZQ,ZW,Xa,en_60, *]) | (refine Jk ?_ ?_<;>intro) | (refine ZG ?_) | (refine ZB fun zr zh=>?_; have zg:=zh; (try simp only [ZpO] at zg)) | (exact ZpN _) | (refine ZpS ?_ ?_)))
 all_goals exact ZpS (ZpR (by assumption)) (by simp only [*])
theorem Zhh {x:Bool × Int} {H0 H:AH} {t:Nat→VV} (h8:t 8=boolV x.1) (h9:t 9=iV x.2) (hs:SubH H0 H):YI Tryz.prog [.tmp 8,.tmp 9] (fun e H'=>e=.ret (eqX x)∧SubH H0 H') .ret ⟨t,[]⟩ H :=
 Yo rfl (x:=eqX x) (by simp only [resV,YY,YX,h8,h9,Zqg,Zp6,tupV]<;>rfl) ⟨rfl,hs⟩
theorem eq_ok {p:Pr} {a b:Ex} {fu:Int} (hp:PrOk p) (ha:a.sz≤1099511627776) (hna:a.nmOk) (hb:b.sz≤1099511627776) (hnb:b.nmOk):PureF Tryz.prog 12 [prV p,exV a,exV b,iV fu] (eqX (Zi4 p a b fu)):=by
 refine Zp4 fun H=>?_
 refine ZE fd12 (by simp) ?_;delta c12 Zj Zq Zf Zb Za Zo Zr Zh Zi Zg Zc Zm Zd;have r1:=Zny (fu:=fu) hp ha hna;have r2:=Zny (fu:=fu) hp hb hnb;have hsm:=esame_ok (runF p a fu).1 (runF p b fu).1 (by have:=Zgi p a fu; omega) (by have:=Zgi p b fu; omega);unfold Zi4;generalize runF p a fu=x at *
 generalize runF p b fu=y at *
 unfold runX at r1 r2;by_cases h1:x.2.2=0
 ·rw [if_pos h1];by_cases h2:y.2.2=0
  ·rw [if_pos h2]
   (repeat' (first | (simp only [↓Zz,ZA,ZI,ptrV,boolV,ZpI,ZpJ,ZpT,reduceCtorEq,ZD,setAt,ZpL,undef,ZlE,Za8,YZ,Zco,Zcp,en_8,en_34, *]) | (refine ZB fun zr zh=>?_; have zg:=zh; (try simp only [ZpO] at zg)) | (refine ZpQ (r1) ?_) | (refine ZpQ (r2) ?_) | (refine ZpQ (hsm) ?_)))
   exact Zhh (by simp only [ZC,ZpI,if_true,if_false, *]<;>rfl) (by simp only [ZC,ZpI,if_true,if_false, *]<;>rfl) (by repeat (first | assumption | exact ZpN _ | refine ZpS ?_ (by simp only [*])))
  ·rw [if_neg h2];clear hsm
   (repeat' (first | (simp only [↓Zz,ZA,ZI,ptrV,ZpI,ZpJ,ZpT,ZD,setAt,ZpL,undef,Za8,YZ,Zco,Zcp,en_8, *]) | (refine ZB fun zr zh=>?_; have zg:=zh; (try simp only [ZpO] at zg)) | (refine ZpQ (r1) ?_) | (refine ZpQ (r2) ?_)))
   exact Zhh (by simp only [ZC,ZpI,if_true,if_false, *]<;>rfl) (by simp only [ZC,ZpI,if_true,if_false, *]<;>rfl) (by repeat (first | assumption | exact ZpN _ | refine ZpS ?_ (by simp only [*])))
 ·rw [if_neg h1];clear hsm
  (repeat' (first | (simp only [↓Zz,ZA,ZI,ptrV,ZpI,ZpJ,ZpT,ZD,setAt,ZpL,undef,Za8,YZ,Zco,Zcp,en_8, *]) | (refine ZB fun zr zh=>?_; have zg:=zh; (try simp only [ZpO] at zg)) | (refine ZpQ (r1) ?_)))
  exact Zhh (by simp only [ZC,ZpI,if_true,if_false, *]<;>rfl) (by simp only [ZC,ZpI,if_true,if_false, *]<;>rfl) (by repeat (first | assumption | exact ZpN _ | refine ZpS ?_ (by simp only [*])))
end Go.PV.YtglpmlbbaedbiaaGreat
end
section
open Bool renaming and_self→Zqo
open Go.PV.AH renaming set_none→ZpO,set_same→ZpP,ne_of→ZpK,get→ZpU
open Go.PV.GhV renaming forget→Zqq
open Go.PV.Hold renaming mk→ZpM
open Go.PV.PureF renaming use→ZpQ,forget→Zp4
open Go.PV.SubH renaming refl→ZpN,of_set→ZpS,none→Zqp
open List renaming drop_zero→ZqL,drop→ZpL,map_cons→Zp3,map_nil→Zqa,length_cons→Zqb,length_nil→Zqh,getD_cons_succ→Zqw,getD_nil→Zqx,all_cons→Zqn,all_nil→Zqv,set_cons_zero→Zqs,set_cons_succ→Zqy
open Nat renaming reduceEqDiff→ZpI,reduceLT→ZpJ,reduceAdd→ZpT,reduceLeDiff→Zp1,succ_ne_self→Zp7,zero_add→Zp2,le_refl→ZpY
open Option renaming bind_some→Zqg,map_some→Zp6
set_option maxRecDepth 20000
set_option maxHeartbeats 4000000
namespace Go.PV.YtglpmlbbaedbiaaGreat
open Go Go.Proofs
theorem ldT_rres:ldT Tryz.prog 48=some (4,true):=by kernel_rfl
theorem ZbQ {H H':AH} {t:Nat→VV} {r6:Nat} {x:Ex × Int × Int} {a b c d y:VV} (h6:t 6=ptrV r6 0) (h7:t 7=y) (k6:H' r6=some (.cells 48 [a,b,c,d] 0)) (hg:GhV H' (.tuple [.agg [a,b,c,d],y]) H (runX x)):YI Tryz.prog [.cell 6 48,.tmp 7] (rnQ x H) .ret ⟨t,[]⟩ H' :=
 Yo rfl (x:=.tuple [.agg [a,b,c,d],y]) (by simp only [resV,YY,YX,ldT_rres,h6,h7,k6,ptrV,ZqL,Znn,Zqg,Zp6,tupV]) ⟨_,rfl,hg⟩
theorem ZkB {p:Pr} {e:Ex} {fu:Int} (hp:PrOk p) (hrp:RPrOk p) (hs:e.sz≤1099511627776) (hn:e.nmOk):PureF Tryz.prog 11 [prV p,exV e,iV fu] (runX (runF p e fu)):=by
 have hrt:=Zpb hrp hs;refine JN.pure fun H=>?_
 unfold JN;refine ZE fd11 (by simp) ?_;delta c11 Zj Zi Zf Zb Zo Zr Zc Za Zm Zq Zg Zp Zh Zd;by_cases hr:JZ p e=0
 ·have hzz:=Zoy hr;rw [hr] at hrt;by_cases hfu:fu<0∨100000<fu
  ·have hF:runF p e fu=(zEx,0,4):=by unfold runF; rw [if_pos hr,if_pos hfu]
   rw [hF];clear hF hzz hr;by_cases hf1:fu<0
   ·(repeat' (first | (simp only [↓Zz,ZA,ptrV,ZpI,ZpJ,ZpT,ZN,ZD,ZM,fillV,setAt,ZpL,undef,ZM,Xn,Yd,ZbW,ZfD,ZaV,Zpr, *]) | (refine ZB fun zr zh=>?_; have zg:=zh; (try simp only [ZpO] at zg)) | (refine ZpQ (hrt) ?_)))
    rename_i r3 h3 g3 r4 h4 g4;have f3:H r3=none:=by simpa using g3
    have f4:H r4=none:=g4.2;have f6:H zr=none:=zg.2.2;exact ZbQ (r6:=zr) (by simp only [ZC,ZpI,if_true,if_false, *]<;>rfl) (by simp only [ZC,ZpI,if_true,if_false, *]<;>rfl) (ZpP _ _ _) (Za4 (by repeat (first | exact ZpN _ | assumption | refine ZpS ?_ (by assumption))) _)
   ·have hf2:100000<fu:=by omega
    (repeat' (first | (simp only [↓Zz,ZA,ptrV,ZpI,ZpJ,ZpT,ZD,ZM,fillV,setAt,ZpL,undef,ZM,Xn,Yd,ZbW,ZfD,ZaV,Zpr, *]) | (refine ZB fun zr zh=>?_; have zg:=zh; (try simp only [ZpO] at zg)) | (refine ZpQ (hrt) ?_)))
    rename_i r3 h3 g3 r4 h4 g4;have f3:H r3=none:=by simpa using g3
    have f4:H r4=none:=g4.2;have f6:H zr=none:=zg.2.2;exact ZbQ (r6:=zr) (by simp only [ZC,ZpI,if_true,if_false, *]<;>rfl) (by simp only [ZC,ZpI,if_true,if_false, *]<;>rfl) (ZpP _ _ _) (Za4 (by repeat (first | exact ZpN _ | assumption | refine ZpS ?_ (by assumption))) _)
  ·have hF:runF p e fu=endF p (evG p fu (gasOf fu e) 0 0 e [] []):=by unfold runF; rw [if_pos hr,if_neg hfu]
   rw [hF];have hf1:¬ fu<0:=by omega
   have hf2:¬ 100000<fu:=by omega
   clear hr hF;have hpg:=Zit hzz.1 hp;have hgd:Zb4 p fu 0 e [] []:=⟨hzz.2.2,hn,hzz.2.1,⟨rfl,trivial⟩,by omega,by omega⟩
   have hev:=fun H=>rev_ok hpg (fu:=fu) (by omega) (gasOf fu e) 0 0 e [] [] H hgd (by unfold gasOf; omega) (by omega) (by omega)
   rw [show e.putM true (bdL [] (ZL p []))=e from put_nil e] at hev;have hpr:=ZdJ hpg (fu:=fu) (gasOf fu e) 0 0 e [] [];generalize evG p fu (gasOf fu e) 0 0 e [] []=R at *
   (repeat' (first | (simp only [↓Zz,ZA,ptrV,ZpI,ZpJ,ZpT,Zp1,ZD,ZM,fillV,setAt,ZpL,undef,ZM,Xn,Yd,stT_106,ZaV,Zpr,en_31, *]) | (refine ZB fun zr zh=>?_; have zg:=zh; (try simp only [ZpO] at zg)) | (refine ZpQ (hrt) ?_)))
   rename_i r3 h3 g3 r4 h4 g4;have f3:H r3=none:=by simpa using g3
   have f4:H r4=none:=g4.2;have f6:H zr=none:=zg.2.2;obtain ⟨H',hH'⟩:∃ H',H'=((H.set r3 (.cells 25 [cosV p.cons,fusV p.funs] 0)).set r4 (.cells 28 [iV e.op,sV e.name,encS exE e.kids] 0)).set zr (.cells 48 zR 0):=⟨_,rfl⟩
   have hs':SubH H H':=by rw [hH']; exact (by repeat (first | exact ZpN _ | assumption | refine ZpS ?_ (by assumption)))
   have k6:H' zr=some (.cells 48 zR 0):=by rw [hH']; exact ZpP _ _ _
   refine Eq.mp (congrArg (fun B=>ZT Tryz.prog 31 _ B _) hH') ?_;generalize zr=r6 at *
   clear h3 g3 h4 g4 zh zg f3 f4 hH' hrt hfu hf1 hf2;refine Zdd (hev H') (fun c v hR=>?_) (fun k c d x hk hR=>?_)
   ·obtain ⟨g1,g2,g3⟩:=hpr c v hgd hR;have hF:endF p R=if 5000<(v.ex p).full then (zEx,0,7) else if v.pl=true then (v.ex p,c,0) else (zEx,0,423):=by rw [hR]; rfl
    rw [hF];have hwd:=Val.ex_wd hpg v g1;have hfl:=rfull_ok (v.ex p) hwd (Val.ex_mk9 v g1) 5000 (by omega) (by omega);have hpl:=Zo7 (v.ex p) hwd;rw [Val.pl_ex] at hpl;unfold fullC at hfl;clear hF hR hev hpr hwd;by_cases h5:5000<(v.ex p).full
    ·rw [if_pos h5];rw [if_neg (by omega)] at hfl;clear hpl h5;have h56:(5000:Int)<5000+1:=by decide
     generalize v.ex p=x at *
     (repeat' (first | (simp only [↓Zz,ZA,ZI,ptrV,ZpI,ZpJ,ZpT,ZM,fillV,setAt,ZpL,ZM,Yj,Yd,YO,ZbW,ZfD,Yn,YE,Yc,Xl,Zmf, *]) | (refine ZB fun zr zh=>?_; have zg:=zh; (try simp only [ZpO] at zg); (try have zn_k6:=ZpK k6 zh); (try have zn_k6:=ZpK k6 zg.2); (try have zn_k6:=ZpK k6 zg.2.2)) | (refine ZpQ (hfl) ?_)))
     rename_i rs us gs ns;have fs:H rs=none:=Zqp hs' (by simpa using gs);have fx:H zr=none:=Zqp hs' zg.2;exact ZbQ (r6:=r6) (by simp only [ZC,ZpI,if_true,if_false, *]<;>rfl) (by simp only [ZC,ZpI,if_true,if_false, *]<;>rfl) (ZpP _ _ _) (Za4 (by repeat (first | exact ZpN _ | assumption | refine ZpS ?_ (by assumption))) _)
    ·rw [if_neg h5];rw [if_pos (by omega)] at hfl;have h5':¬ (5000:Int)<((v.ex p).full:Int):=by omega
     clear h5;generalize v.ex p=x at *
     generalize hvp:v.pl=q at *
     cases q with
     | true =>
       rw [if_pos rfl]
       (repeat' (first | (simp only [↓Zz,ZA,ZI,ptrV,boolV,ZpI,ZpJ,ZpT,Zp1,ZM,fillV,setAt,ZpL,ZM,Yj,ZdR,Yd,YO,ZQ,ZbW,ZfD,Yn,YE,Yc,Xl,Zmf,Zps, *]) | (refine ZB fun zr zh=>?_; have zg:=zh; (try simp only [ZpO] at zg); (try have zn_k6:=ZpK k6 zh); (try have zn_k6:=ZpK k6 zg.2); (try have zn_k6:=ZpK k6 zg.2.2)) | (refine ZpQ (hfl) ?_) | (refine ZpQ (hpl) ?_)))
       rename_i rs us gs ns;have fs:H rs=none:=Zqp hs' (by simpa using gs);have fx:H zr=none:=Zqp hs' zg.2;exact ZbQ (r6:=r6) (by simp only [ZC,ZpI,if_true,if_false, *]<;>rfl) (by simp only [ZC,ZpI,if_true,if_false, *]<;>rfl) (ZpP _ _ _) (Zqq (by repeat (first | exact ZpN _ | assumption | refine ZpS ?_ (by assumption))) _)
     | false =>
       rw [if_neg (by decide)]
       (repeat' (first | (simp only [↓Zz,ZA,ZI,ptrV,boolV,ZpI,ZpJ,ZpT,ZM,fillV,setAt,ZpL,ZM,Yj,Yd,YO,ZbW,ZfD,Yn,YE,Yc,Xl,Zmf,Zps, *]) | (refine ZB fun zr zh=>?_; have zg:=zh; (try simp only [ZpO] at zg); (try have zn_k6:=ZpK k6 zh); (try have zn_k6:=ZpK k6 zg.2); (try have zn_k6:=ZpK k6 zg.2.2)) | (refine ZpQ (hfl) ?_) | (refine ZpQ (hpl) ?_)))
       rename_i rs us gs ns;have fs:H rs=none:=Zqp hs' (by simpa using gs);have fx:H zr=none:=Zqp hs' zg.2;exact ZbQ (r6:=r6) (by simp only [ZC,ZpI,if_true,if_false, *]<;>rfl) (by simp only [ZC,ZpI,if_true,if_false, *]<;>rfl) (ZpP _ _ _) (Za4 (by repeat (first | exact ZpN _ | assumption | refine ZpS ?_ (by assumption))) _)
   ·have hF:endF p R=(zEx,0,k):=by rw [hR]; rfl
    rw [hF];have hk':=ZpM hk;clear hF hR hev hpr
    (repeat' (first | (simp only [↓Zz,ZA,ZI,ptrV,ZpI,ZpJ,ZpT,setAt,ZpL,Yj,YO,Yn,YE,Yc,Xl, *]) | (refine ZB fun zr zh=>?_; have zg:=zh; (try simp only [ZpO] at zg); (try have zn_k6:=ZpK k6 zh); (try have zn_k6:=ZpK k6 zg.2); (try have zn_k6:=ZpK k6 zg.2.2))))
    rename_i rs us gs ns;have fs:H rs=none:=Zqp hs' (by simpa using gs);have fx:H zr=none:=Zqp hs' zg.2
    (repeat' (first | (refine ZJ mixed (fun _ _ _ _ e h=>⟨e.trans h.1,h.2⟩) _ (sub1 (r:=rs) (by simp only [ZpU, *,if_true,if_false]<;>rfl)) ?_) | (refine sub1 (by simp only [ZpU, *,if_true,if_false]<;>rfl)) | (simp only [↓WX,↓Xe,↓Yf,↓Yi,↓Wa,↓Yu,↓Yr,↓XJ,↓Ys,↓XK,↓Yt,↓ZC,↓YH,↓YA,↓YU,↓Jm,↓Yb,Zp3,Zqa,Zqb,Zqh,Zqw,Zqx,ite_true,ite_false,ZpI,ZpJ,ZpT,ne_eq,not_false_eq_true,true_and,Zp7,↓YV,↓YK,↓YL,ZpU,ZM,fillV,setAt,Zqn,Zqv,Zqo,eq_self,Zp2,ZpL,Wi,XS,We,ZkW,YT,Zqs,Zqy,ZpY,XG,WY,XH,Xr,WO,WP,WQ,↓Ws,↓WC,Zar,ZM,Yj,YO,ZbW,ZfD, *]) | (with_reducible refine And.intro ?_ ?_)))
    exact ZbQ (r6:=r6) (by simp only [ZC,ZpI,if_true,if_false, *]<;>rfl) (by simp only [ZC,ZpI,if_true,if_false, *]<;>rfl) (ZpP _ _ _) (Za4 (by repeat (first | exact ZpN _ | assumption | refine ZpS ?_ (by assumption))) _)
 ·have hF:runF p e fu=(zEx,0,JZ p e):=by unfold runF; rw [if_neg hr]
  rw [hF];clear hF;generalize JZ p e=R at *
  (repeat' (first | (simp only [↓Zz,ZA,ptrV,ZpI,ZpJ,ZpT,ZD,ZM,fillV,setAt,ZpL,undef,ZM,Xn,Yd,ZbW,ZfD,ZaV,Zpr, *]) | (refine ZB fun zr zh=>?_; have zg:=zh; (try simp only [ZpO] at zg)) | (refine ZpQ (hrt) ?_)))
  rename_i r3 h3 g3 r4 h4 g4;have f3:H r3=none:=by simpa using g3
  have f4:H r4=none:=g4.2;have f6:H zr=none:=zg.2.2;exact ZbQ (r6:=zr) (by simp only [ZC,ZpI,if_true,if_false, *]<;>rfl) (by simp only [ZC,ZpI,if_true,if_false, *]<;>rfl) (ZpP _ _ _) (Za4 (by repeat (first | exact ZpN _ | assumption | refine ZpS ?_ (by assumption))) _)
theorem req_ok {p:Pr} {a b:Ex} {fu:Int} (hp:PrOk p) (hrp:RPrOk p) (ha:a.sz≤1099511627776) (hna:a.nmOk) (hb:b.sz≤1099511627776) (hnb:b.nmOk):PureF Tryz.prog 13 [prV p,exV a,exV b,iV fu] (eqX (Zi4 p a b fu)):=by
 refine Zp4 fun H=>?_
 refine ZE fd13 (by simp) ?_;delta c13 Zj Zq Zf Zb Za Zo Zr Zh Zi Zg Zc Zm Zd;have r1:=ZkB (fu:=fu) hp hrp ha hna;have r2:=ZkB (fu:=fu) hp hrp hb hnb;have hsm:=rsame_ok (runF p a fu).1 (runF p b fu).1 (by have:=Zgi p a fu; omega) (by have:=Zgi p b fu; omega);unfold Zi4;generalize runF p a fu=x at *
 generalize runF p b fu=y at *
 unfold runX at r1 r2;by_cases h1:x.2.2=0
 ·rw [if_pos h1];by_cases h2:y.2.2=0
  ·rw [if_pos h2]
   (repeat' (first | (simp only [↓Zz,ZA,ZI,ptrV,boolV,ZpI,ZpJ,ZpT,reduceCtorEq,ZD,setAt,ZpL,undef,ZlF,Xn,Yd,ZbW,ZaV,Zpo,en_35, *]) | (refine ZB fun zr zh=>?_; have zg:=zh; (try simp only [ZpO] at zg)) | (refine ZpQ (r1) ?_) | (refine ZpQ (r2) ?_) | (refine ZpQ (hsm) ?_)))
   exact Zhh (by simp only [ZC,ZpI,if_true,if_false, *]<;>rfl) (by simp only [ZC,ZpI,if_true,if_false, *]<;>rfl) (by repeat (first | assumption | exact ZpN _ | refine ZpS ?_ (by simp only [*])))
  ·rw [if_neg h2];clear hsm
   (repeat' (first | (simp only [↓Zz,ZA,ZI,ptrV,ZpI,ZpJ,ZpT,ZD,setAt,ZpL,undef,Xn,Yd,ZbW,ZaV,Zpo, *]) | (refine ZB fun zr zh=>?_; have zg:=zh; (try simp only [ZpO] at zg)) | (refine ZpQ (r1) ?_) | (refine ZpQ (r2) ?_)))
   exact Zhh (by simp only [ZC,ZpI,if_true,if_false, *]<;>rfl) (by simp only [ZC,ZpI,if_true,if_false, *]<;>rfl) (by repeat (first | assumption | exact ZpN _ | refine ZpS ?_ (by simp only [*])))
 ·rw [if_neg h1];clear hsm
  (repeat' (first | (simp only [↓Zz,ZA,ZI,ptrV,ZpI,ZpJ,ZpT,ZD,setAt,ZpL,undef,Xn,Yd,ZbW,ZaV,Zpo, *]) | (refine ZB fun zr zh=>?_; have zg:=zh; (try simp only [ZpO] at zg)) | (refine ZpQ (r1) ?_)))
  exact Zhh (by simp only [ZC,ZpI,if_true,if_false, *]<;>rfl) (by simp only [ZC,ZpI,if_true,if_false, *]<;>rfl) (by repeat (first | assumption | exact ZpN _ | refine ZpS ?_ (by simp only [*])))
end Go.PV.YtglpmlbbaedbiaaGreat
end
section
set_option maxRecDepth 20000
set_option maxHeartbeats 8000000
namespace Go.PV
end Go.PV
namespace Go.PV.YtglpmlbbaedbiaaGreat
open Go Go.Proofs
end Go.PV.YtglpmlbbaedbiaaGreat
end
section
set_option maxRecDepth 20000
set_option maxHeartbeats 4000000
namespace Go.PV.YtglpmlbbaedbiaaGreat
open Go Go.Proofs
end Go.PV.YtglpmlbbaedbiaaGreat
end
section
set_option maxRecDepth 20000
set_option maxHeartbeats 16000000
namespace Go.PV.YtglpmlbbaedbiaaGreat
open Go Go.Proofs
end Go.PV.YtglpmlbbaedbiaaGreat
end
section
set_option maxRecDepth 20000
set_option maxHeartbeats 8000000
namespace Go.PV.YtglpmlbbaedbiaaGreat
open Go Go.Proofs
end Go.PV.YtglpmlbbaedbiaaGreat
end
section
open Go.PV.AH renaming set_none→ZpO,set_ne→ZpV,set_same→ZpP,ne_of→ZpK,get→ZpU
open Go.PV.Hold renaming mk→ZpM
open Go.PV.PureF renaming forget→Zp4,use→ZpQ
open Go.PV.SubH renaming new→ZpR,of_set→ZpS,none→Zqp,refl→ZpN
open List renaming drop_eq_getElem_cons→Zql,map_cons→Zp3,getElem_mem→ZpW,drop→ZpL,drop_eq_nil_of_le→Zp9,take_of_length_le→Zqr,drop_zero→ZqL
open Nat renaming reduceEqDiff→ZpI,reduceLT→ZpJ,reduceAdd→ZpT,reduceMul→Zqu,reduceLeDiff→Zp1,le_refl→ZpY
set_option maxRecDepth 20000
set_option maxHeartbeats 4000000
namespace Go.PV.YtglpmlbbaedbiaaGreat
open Go Go.Proofs
def prSz (p:Pr):Nat:=p.cons.length+fusSz p.funs
theorem ZmO {l:List Fu} {i:Nat} (h:i<l.length):fusSz (l.drop i)=fuSz l[i]+fusSz (l.drop (i+1)):=by
 unfold fusSz; rw [Zql h,Zp3,List.sum_cons]
theorem small_ok (p:Pr) (n:Int) (hs:prSz p≤1099511627776):PureF Tryz.prog 6 [prV p,iV n] (boolV (decide ((prSz p:Int)≤n))):=by
 have hl:p.funs.length≤fusSz p.funs:=Zgd ZlO p.funs;have hc:∀ i (h:i<p.funs.length),fuSz p.funs[i]≤1099511627776:=fun i h=>by have:=ZaA (f:=fuSz) (ZpW h); unfold prSz fusSz at hs; omega
 have hf:∀ i (h:i<p.funs.length),PureF Tryz.prog 20 [fuV p.funs[i]] (iV (fuSz p.funs[i])):=fun i h=>ZoR _ (hc i h)
 have hp:prSz p=p.cons.length+fusSz p.funs:=rfl;have hlN:p.funs.length≤1099511627776:=by omega
 obtain ⟨N,hN⟩:∃ N,prSz p=N:=⟨_,rfl⟩
 rw [hN] at hs hp ⊢;have hcl:p.cons.length≤1099511627776:=by omega
 clear hN hl;refine Zp4 fun H=>?_
 refine ZE fd6 (by simp) ?_;delta c6 Zj Zq Zd Zb Ze Zc;replace hp:=ZpM hp
 (repeat' (first | (simp only [↓Zz,ZA,ptrV,intV,boolV,ZpI,ZpJ,reduceCtorEq,ZD,ZpL,undef,WR,Xp,Za6,WS,Wp,JJ, *]) | (refine ZB fun zr zh=>?_; have zg:=zh; (try simp only [ZpO] at zg))))
 refine ZP (fun _ _ _ h=>h) (fun A H'=>SubH H H'∧A.d=[]∧A.t 1=iV n∧A.t 12=fusV p.funs∧A.t 13=iV p.funs.length∧∃ (i m:Nat),i≤p.funs.length∧A.t 14=iV i∧A.t 5=iV m∧m+fusSz (p.funs.drop i)=N)
  (fun A _=>match A.t 14 with | .lit (.int _ i)=>((p.funs.length:Int)-i).toNat | _=>0) ?_ ?_
 ·exact ⟨ZpR zh,rfl,(by simp only [ZC,ZpI,if_false, *]<;>rfl),(by simp only [ZC,ZpI,if_true,if_false, *]<;>rfl),(by simp only [ZC,ZpI,if_true,if_false, *]<;>rfl),0,p.cons.length,by omega,(by simp only [ZC,ZpI,if_true,if_false, *]<;>rfl),(by simp only [ZC,ZpI,if_true,if_false, *]<;>rfl),hp.out.symm⟩
 ·clear hp;rintro ⟨t,d⟩ H' ⟨hs',rfl,h1,h12,h13,i,m,hi,h14,h5,hm⟩;dsimp only at h1 h12 h13 h14 h5;delta b6_1 Zn Zr Zk Zb Zi Zg Za Zo Zc Zq Zm;by_cases hlt:i<p.funs.length
  ·have hil:(i:Int)<(p.funs.length:Int):=by omega
   have hfi:=hf i hlt;have e1:=ZmO hlt;have e2:=Wy hlt;have hw:IntKind.i64.wrap ((m:Int)+(fuSz p.funs[i]:Int))=(m:Int)+(fuSz p.funs[i]:Int):=ZK (by omega) (by omega);rw [e1] at hm;clear hf hc e1;by_cases hg:n<(m:Int)+(fuSz p.funs[i]:Int)
   ·have hd:decide ((N:Int)≤n)=false:=decide_eq_false (by omega);rw [hd];clear hd hm
    (repeat' (first | (simp only [↓Zz,ZA,ptrV,ZpI,ZpJ,ZpT,setAt,ZpL,ZaB,Zeo,ZaW,Wp,en_20, *]) | (refine ZG ?_) | (refine ZB fun zr zh=>?_; have zg:=zh; (try simp only [ZpO] at zg)) | (refine ZpS ?_ ?_) | (exact Zqp (by assumption) (by assumption)) | (refine ZpQ (hfi) ?_)))
   ·replace hm:=ZpM hm
    (repeat' (first | (simp only [↓Zz,ZA,ptrV,ZpI,ZpJ,ZpT,setAt,ZpL,ZaB,Zeo,ZaW,Wp,en_20, *]) | (refine ZB fun zr zh=>?_; have zg:=zh; (try simp only [ZpO] at zg)) | (refine ZpS ?_ ?_) | (exact Zqp (by assumption) (by assumption)) | (refine ZpQ (hfi) ?_) | (with_reducible refine And.intro ?_ ?_)))
    all_goals rw [ZK (n:=(i:Int)+1) (by omega) (by omega)]
    ·exact ⟨i+1,m+fuSz p.funs[i],by omega,rfl,rfl,by have:=hm.out; omega⟩
    ·omega
  ·have hil:¬ (i:Int)<(p.funs.length:Int):=by omega
   rw [Zp9 (by omega)] at hm;have hm:m=N:=by simpa [fusSz] using hm
   subst hm
   (repeat' (first | (simp only [↓Zz,ZA,ZpJ, *]) | (refine ZV rfl (fun _ _ _ h=>h) ?_)))
   delta c6_1 Za Zn Zc
   (repeat' (first | (simp only [↓Zz,ZA,ZpI,ZpJ, *]) | (refine ZG ?_)))
theorem co_take {l:List Co} {i:Nat} (h:i<l.length):encC coE (l.take (i+1))=encC coE (l.take i)++[sV l[i].name,iV l[i].arity]:=by
 rw [XB h,Yl]; rfl
theorem fu_take {l:List Fu} {i:Nat} (h:i<l.length):encC fuE (l.take (i+1))=encC fuE (l.take i)++[sV l[i].name,iV l[i].arity,clsV l[i].cls]:=by
 rw [XB h,Yl]; rfl
abbrev nilV:VV:=.lit (.slice none 0 0)
theorem prog_ok (p:Pr) (hs:prSz p≤1099511627776):PureF Tryz.prog 9 [prV p] (prV p):=by
 have hl:p.funs.length≤fusSz p.funs:=Zgd ZlO p.funs;have hc:∀ i (h:i<p.funs.length),fuSz p.funs[i]≤1099511627776:=fun i h=>by have:=ZaA (f:=fuSz) (ZpW h); unfold prSz fusSz at hs; omega
 have hf:∀ i (h:i<p.funs.length),PureF Tryz.prog 29 [fuV p.funs[i]] (fuV p.funs[i]):=fun i h=>fun_ok _ (hc i h)
 have hp:prSz p=p.cons.length+fusSz p.funs:=rfl;have hfN:p.funs.length≤1099511627776:=by omega
 have hcN:p.cons.length≤1099511627776:=by omega
 clear hl hc hp hs;refine JN.pure fun H0=>?_
 refine ZE fd9 (by simp) ?_;delta c9 Zj Zi Zd Zb Ze Zq
 (repeat' (first | (simp only [↓Zz,ZA,ptrV,intV,ZpI,ZpJ,reduceCtorEq,ZD,ZpL,undef,WR,Za6,zeroT_44,JJ, *]) | (refine ZB fun zr zh=>?_; have zg:=zh; (try simp only [ZpO] at zg))))
 rename_i r1 n1 n1' r2 n2 n2';obtain ⟨⟨d32,d23⟩,⟨d31,d13⟩,n3⟩:=zg;obtain ⟨⟨d21,d12⟩,n2''⟩:=n2';obtain ⟨B0,hB0⟩:∃ B0,B0=(H0.set r1 (.cells 25 [cosV p.cons,fusV p.funs] 0)).set r2 (.cells 44 [nilV,nilV] 0):=⟨_,rfl⟩
 have q1:B0 r1=some (.cells 25 [cosV p.cons,fusV p.funs] 0):=by rw [hB0,ZpV _ _ d12]; exact ZpP _ _ _
 have hw0:SubH (H0.set r2 (.cells 44 [nilV,nilV] 0)) B0:=by rw [hB0]; exact (ZpR n1).set _ _
 rw [← hB0] at zh;rw [← hB0];have hb0:InB B0 (B0.set zr (.cells 44 [nilV,nilV] 0)) zr 44 [] [nilV] 76 2 0 [] nilV _:=InB.start (ZpP _ _ _) (ZpR zh) zh;generalize zr=r3 at *
 refine ZP (fun _ _ _ h=>h) (fun A H=>A.d=[]∧A.t 1=ptrV r1 0∧A.t 2=ptrV r2 0∧A.t 3=ptrV r3 0∧A.t 9=cosV p.cons∧A.t 10=iV p.cons.length∧∃ (i:Nat) (v:VV) (Hb:AH),i≤p.cons.length∧A.t 11=iV i∧InB B0 H r3 44 [] [nilV] 76 2 i (encC coE (p.cons.take i)) v Hb)
  (fun A _=>match A.t 11 with | .lit (.int _ i)=>((p.cons.length:Int)-i).toNat | _=>0) ?_ ?_
 ·exact ⟨rfl,(by simp only [ZC,ZpI,if_true,if_false, *]<;>rfl),(by simp only [ZC,ZpI,if_true,if_false, *]<;>rfl),(by simp only [ZC,ZpI,if_true,if_false, *]<;>rfl),(by simp only [ZC,ZpI,if_true,if_false, *]<;>rfl),(by simp only [ZC,ZpI,if_true,if_false, *]<;>rfl),0,_,_,by omega,(by simp only [ZC,ZpI,if_true,if_false, *]<;>rfl),hb0⟩
 ·clear hb0 n2 hB0;rintro ⟨t,d⟩ H ⟨rfl,h1,h2,h3,h9,h10,i,v,Hb,hi,h11,hbl⟩;dsimp only at h1 h2 h3 h9 h10 h11;have q3:=hbl.at;delta b9_1 Zn Zr Zk Zb Zi Zg Zd Zq Zl Zm Za;by_cases hlt:i<p.cons.length
  ·have hil:(i:Int)<(p.cons.length:Int):=by omega
   have e2:=Zaj hlt
   (repeat' (first | (simp only [↓Zz,ZA,ptrV,ZpI,ZpJ,ZpT,Zqu,Zp1,fillV,setAt,ZpL,ZH,ZH,Wk,ldT_102,WT,szT_102,ZoD,JJ,Za7,ZfQ, *]) | (refine ZB fun zr zh=>?_; have zg:=zh; (try simp only [ZpO] at zg); (try have zn_q3:=ZpK q3 zh); (try have zn_q3:=ZpK q3 zg.2); (try have zn_q3:=ZpK q3 zg.2.2))))
   have hb2:=hbl.alloc zg (.cells 102 [sV p.cons[i].name,iV p.cons[i].arity] 0);refine WH Za7 ZfQ rfl (by omega) hb2.own rfl rfl (by omega) (by omega) (fun v' H'' ho=>?_);have hb3:=hb2.next ho;have q3':=ho.sub _ _ hb2.blk;have hc1:=ho.cells.1;have hc2:=ho.cells.2;clear hb2 hbl q3 ho
   (repeat' (first | (simp only [↓Zz,ZA,ptrV,ZpI,ZpJ,ZpT,Zp1,setAt,Wk,szT_41, *]) | (with_reducible refine And.intro ?_ ?_)))
   all_goals rw [ZK (n:=(i:Int)+1) (by omega) (by omega)]
   ·rw [← co_take hlt] at hb3;exact ⟨i+1,v',_,by omega,rfl,hb3⟩
   ·omega
  ·have hil:¬ (i:Int)<(p.cons.length:Int):=by omega
   (repeat' (first | (simp only [↓Zz,ZA,ptrV,ZpJ, *])))
   have hin:i=p.cons.length:=by omega
   subst hin;rw [Zqr (ZpY _)] at hbl;have d13':=none_ne q1 hbl.new;refine WN (hbl.ghost _ _) ?_;clear hbl q3 h9 h10 h11;show ACx _ _ _ _ (B0.set r3 (.cells 44 [cosV p.cons,nilV] 0));have q1':(B0.set r3 (.cells 44 [cosV p.cons,nilV] 0)) r1=some (.cells 25 [cosV p.cons,fusV p.funs] 0):=by rw [ZpV _ _ (fun e=>d13' e.symm)]; exact q1
   delta c9_2 Zd Zb Ze Zq;refine ZV rfl (fun _ _ _ h=>h) ?_
   (repeat' (first | (simp only [↓Zz,ZA,ptrV,intV,ZpI,ZpJ,reduceCtorEq,ZpL,Xp,WS,Wp, *])))
   have hn3:(H0.set r2 (.cells 44 [nilV,nilV] 0)) r3=none:=by rw [ZpU,if_neg d32]; exact n3
   have hb0:InB (H0.set r2 (.cells 44 [nilV,nilV] 0)) (B0.set r3 (.cells 44 [cosV p.cons,nilV] 0)) r3 44 [cosV p.cons] [] 81 3 0 [] nilV _ :=
    InB.start (ZpP _ _ _) (hw0.trans (ZpR zh)) hn3
   refine ZP (fun _ _ _ h=>h) (fun A H=>A.d=[]∧A.t 2=ptrV r2 0∧A.t 3=ptrV r3 0∧A.t 23=fusV p.funs∧A.t 24=iV p.funs.length∧∃ (i:Nat) (v:VV) (Hb:AH),i≤p.funs.length∧A.t 25=iV i∧InB (H0.set r2 (.cells 44 [nilV,nilV] 0)) H r3 44 [cosV p.cons] [] 81 3 i (encC fuE (p.funs.take i)) v Hb)
    (fun A _=>match A.t 25 with | .lit (.int _ i)=>((p.funs.length:Int)-i).toNat | _=>0) ?_ ?_
   ·exact ⟨rfl,(by simp only [ZC,ZpI,if_false, *]<;>rfl),(by simp only [ZC,ZpI,if_false, *]<;>rfl),(by simp only [ZC,ZpI,if_true,if_false, *]<;>rfl),(by simp only [ZC,ZpI,if_true,if_false, *]<;>rfl),0,_,_,by omega,(by simp only [ZC,ZpI,if_true,if_false, *]<;>rfl),hb0⟩
   ·clear hb0 h1 h2 h3 q1' q1 hw0 hn3 hi;rintro ⟨t,d⟩ H ⟨rfl,h2,h3,h23,h24,i,v,Hb,hi,h25,hbl⟩;dsimp only at h2 h3 h23 h24 h25;have q3:=hbl.at;have q2:=hbl.cell2;delta b9_2 Zn Zr Zk Zb Zi Zg Zd Zo Zq Zl Zm Za;by_cases hlt:i<p.funs.length
    ·have hil:(i:Int)<(p.funs.length:Int):=by omega
     have e2:=Wy hlt;have hfi:=hf i hlt
     (repeat' (first | (simp only [↓Zz,ZA,ptrV,ZpI,ZpJ,ZpT,Zqu,Zp1,fillV,setAt,ZpL,ZH,ZH,Jz,ZaB,Zcq,Zeo,ZaW,Wp,Zbi,Zdx,en_29, *]) | (refine ZJ mixed (fun _ _ _ _ e h=>⟨e.trans h.1,h.2⟩) _ (ZpN _) ?_) | (refine ZB fun zr zh=>?_; have zg:=zh; (try simp only [ZpO] at zg); (try have zn_q3:=ZpK q3 zh); (try have zn_q3:=ZpK q3 zg.2); (try have zn_q3:=ZpK q3 zg.2.2)) | (exact ZpN _) | (refine ZpQ (hfi) ?_) | (with_reducible refine And.intro ?_ ?_)))
     have hb2:=hbl.alloc zg (.cells 67 [sV p.funs[i].name,iV p.funs[i].arity,clsV p.funs[i].cls] 0);refine WH Zbi Zdx rfl (by omega) hb2.own rfl rfl (by omega) (by omega) (fun v' H'' ho=>?_);have hb3:=hb2.next ho;have q3':=ho.sub _ _ hb2.blk;have hc1:=ho.cells.1;have hc2:=ho.cells.2;clear hb2 hbl q3 q2 ho
     (repeat' (first | (simp only [↓Zz,ZA,ptrV,ZpI,ZpJ,ZpT,setAt,Jz,szT_42, *]) | (with_reducible refine And.intro ?_ ?_)))
     all_goals rw [ZK (n:=(i:Int)+1) (by omega) (by omega)]
     ·rw [← fu_take hlt] at hb3;exact ⟨i+1,v',_,by omega,rfl,hb3⟩
     ·omega
    ·have hil:¬ (i:Int)<(p.funs.length:Int):=by omega
     have hin:i=p.funs.length:=by omega
     subst hin;rw [Zqr (ZpY _)] at hbl;have hc1:=hbl.own.cells.1;have hc2:=hbl.own.cells.2
     (repeat' (first | (simp only [↓Zz,ZA,ptrV,ZpJ, *])))
     delta c9_1 Zb Zg
     (repeat' (first | (simp only [↓Zz,ZA,ptrV,ZpI,ZpJ,ZpT,setAt,ZpL,Za8,szT_44, *]) | (refine ZV rfl (fun _ _ _ h=>h) ?_)))
     refine ZdC Za8 (by simp only [ZC,ZpI,if_false, *]<;>rfl) (ZpP _ _ _) (by rw [ZqL]; exact ZfJ _ _ _) ?_;exact ⟨_,rfl,GhV.agg (hbl.ret n2'' _)⟩
end Go.PV.YtglpmlbbaedbiaaGreat
end
section
open List renaming map_cons→Zp3,length_cons→Zqb
open Nat renaming le_refl→ZpY
set_option maxRecDepth 20000
namespace Go.PV.YtglpmlbbaedbiaaGreat
open Go Go.Proofs Go.ChangeShapes Go.WideShapes Go.RowKit
def coWt (c:Co):Nat:=c.name.size+3
def prWt (p:Pr):Nat:=(p.cons.map coWt).sum+(p.funs.map fuWt).sum+3
theorem rdCo (n:Nat):RdN n Tryz.prog 102 coE (fun _=>True) coWt:=by
 cases n with
 | zero=>exact Zav
 | succ n =>
   refine ZeA (fun p:ByteArray × Int × Unit=>(⟨p.1,p.2.1⟩:Co)) (ZaG (tot:=2) Tryz.underlying102 (by kernel_rfl) (Xs (k:=1) rfl (by kernel_rfl) (ZcW Tryz.underlying9) (Xs (k:=1) rfl (by kernel_rfl) (ZhH Tryz.underlying3) (Zbr 2)))) ?_ (fun _ _=>trivial) ?_
   ·intro p; rfl
   ·intro p; show p.1.size+3≤_; omega
theorem rdPr (n:Nat):RdN n Tryz.prog 25 (fun p:Pr=>[cosV p.cons,fusV p.funs]) (fun _=>True) prWt:=by
 cases n with
 | zero=>exact Zav
 | succ n =>
   have hs:RdN n Tryz.prog 22 (fun l:List Co=>[encS coE l]) (fun l=>∀ a∈l,True) (fun l=>(l.map coWt).sum+1):=ZaH (k:=2) Tryz.underlying22 (by kernel_rfl) (by omega) (fun i hi=>rdCo i) (fun _=>rfl);have hf:RdN n Tryz.prog 23 (fun l:List Fu=>[encS fuE l]) (fun l=>∀ a∈l,True) (fun l=>(l.map fuWt).sum+1):=ZaH (k:=3) Tryz.underlying23 (by kernel_rfl) (by omega) (fun i hi=>rdFu i) (fun _=>rfl);refine ZeA (fun p:List Co × List Fu × Unit=>(⟨p.1,p.2.1⟩:Pr)) (ZaG (tot:=2) Tryz.underlying25 (by kernel_rfl) (Xs (k:=1) rfl (by kernel_rfl) hs (Xs (k:=1) rfl (by kernel_rfl) hf (Zbr 2)))) ?_ (fun _ _=>trivial) ?_
   ·intro p; rfl
   ·intro p; show (p.1.map coWt).sum+(p.2.1.map fuWt).sum+3≤_; omega
theorem Zf5 {α:Type} {f:α→Nat} (h:∀ x,0<f x):∀ l:List α,l.length≤(l.map f).sum
 | []=>ZpY _
 | x::l=>by have:=Zf5 h l; have:=h x; simp only [Zp3,List.sum_cons,Zqb]; omega
theorem Ex.nmOk_wt:∀ e:Ex,e.wt≤1099511627776→e.nmOk:=by
 refine Ex.ind (p:=fun e=>e.wt≤1099511627776→e.nmOk) (fun e ih h=>?_);have hw:e.wt=4+e.name.size+exsWt e.kids:=by cases e; rw [Ex.wt]; rfl
 refine Ex.nmOk_iff.2 ⟨by omega,fun k hk=>ih k hk ?_⟩;have h1:=ZaA (f:=Ex.wt) hk;rw [Zio] at hw;omega
theorem Pa.wt_eq (e:Pa):e.wt=4+e.name.size+pasWt e.kids:=by cases e; rw [Pa.wt]; rfl
theorem Pa.nmOk_wt:∀ e:Pa,e.wt≤1099511627776→e.nmOk:=by
 refine Pa.ind (p:=fun e=>e.wt≤1099511627776→e.nmOk) (fun e ih h=>?_);have hw:=e.wt_eq;refine Pa.nmOk_iff.2 ⟨by omega,fun k hk=>ih k hk ?_⟩;have h1:=ZaA (f:=Pa.wt) hk;rw [ZdF] at hw;omega
mutual
theorem Pa.all_wt:∀ (p:Pa) (a:Int),∀ x∈p.all a,x.1.wt≤p.wt
 | .mk c n ks,a,x,h=>by
   rw [Pa.all] at h;rcases List.mem_cons.1 h with rfl | h
   ·exact ZpY _
   ·have:=ZjR ks _ x h
    rw [Pa.wt]; omega
theorem ZjR:∀ (l:List Pa) (a:Int),∀ x∈XO l a,x.1.wt≤pasWt l
 | [],a,x,h=>by simp [XO] at h
 | p::l,a,x,h=>by
   rw [XO] at h;rw [pasWt];rcases List.mem_append.1 h with h | h
   ·have:=Pa.all_wt p a x h; omega
   ·have:=ZjR l a x h; omega
end
theorem ZjS {l:List Pa} {q:Pa} (h:q∈l):q.wt≤pasWt l:=by rw [ZdF]; exact ZaA h
theorem cl_ok {c:Cl} (h:clWt c≤1048576):ClOk c∧RClOk c∧∀ s∈ZY c.pats,s.size≤1048576:=by
 have h4:clWt c=pasWt c.pats+c.body.wt+2:=rfl;have h1:=Zf0 c.pats;have h2:=c.body.sz_wt;refine ⟨⟨by omega,fun q hq x hx=>?_,by omega,c.body.nmOk_wt (by omega)⟩,⟨by omega,fun q hq=>q.nmOk_wt ?_,by omega,c.body.nmOk_wt (by omega)⟩,fun s hs=>?_⟩
 ·have:=ZjS hq
  have:=Pa.all_wt q 0 x hx
  have:=x.1.wt_eq
  omega
 ·have:=ZjS hq; omega
 ·have:=Zdq c.pats s hs; omega
theorem clWt_pos (c:Cl):0<clWt c:=by unfold clWt; omega
theorem coWt_pos (c:Co):0<coWt c:=by unfold coWt; omega
theorem fuWt_pos (f:Fu):0<fuWt f:=by unfold fuWt; omega
theorem pr_ok {p:Pr} (h:prWt p≤1048576):InOk p∧RPrOk p∧prSz p≤1048576∧p.cons.length≤1048576∧p.funs.length≤1048576:=by
 have h0:prWt p=(p.cons.map coWt).sum+(p.funs.map fuWt).sum+3:=rfl;have c1:=Zf5 coWt_pos p.cons;have f1:=Zf5 fuWt_pos p.funs;have hc:∀ c∈p.cons,c.name.size≤1048576:=fun c hc=>by have:=ZaA (f:=coWt) hc; have h:coWt c=c.name.size+3:=rfl; omega
 have hf:∀ f∈p.funs,fuWt f≤1048576:=fun f hf=>by have:=ZaA (f:=fuWt) hf; omega
 have hfn:∀ f∈p.funs,f.name.size≤1048576:=fun f hf'=>by have:=hf f hf'; have h:fuWt f=f.name.size+(f.cls.map clWt).sum+4:=rfl; omega
 have hcl:∀ f∈p.funs,∀ c∈f.cls,clWt c≤1048576:=fun f hf' c hc'=>by have:=hf f hf'; have h:fuWt f=f.name.size+(f.cls.map clWt).sum+4:=rfl; have:=ZaA (f:=clWt) hc'; omega
 have hcn:∀ f∈p.funs,f.cls.length≤1048576:=fun f hf'=>by have:=hf f hf'; have h:fuWt f=f.name.size+(f.cls.map clWt).sum+4:=rfl; have:=Zf5 clWt_pos f.cls; omega
 have h5:(1048576:Nat)≤maxLen:=by decide
 refine ⟨⟨⟨by omega,by omega,fun c h=>by have:=hc c h; omega,fun f h=>by have:=hfn f h; omega,fun f h=>⟨by have:=hcn f h; omega,fun c h'=>(cl_ok (hcl f h c h')).1⟩⟩,fun f h=>by have:=Zn9 f; have:=hf f h; omega,fun f h c h' s hs=>by have:=(cl_ok (hcl f h c h')).2.2 s hs; omega⟩,
  ⟨by omega,by omega,fun c h=>by have:=hc c h; omega,fun f h=>by have:=hfn f h; omega,fun f h=>⟨by have:=hcn f h; omega,fun c h'=>(cl_ok (hcl f h c h')).2.1⟩⟩,?_,by omega,by omega⟩
 have:fusSz p.funs≤(p.funs.map fuWt).sum:=Zno Zn9 p.funs
 unfold prSz; omega
end Go.PV.YtglpmlbbaedbiaaGreat
end
section
open Bool renaming and_self→Zqo,false_eq_true→ZqP
open Go.PV.AH renaming get→ZpU,set_set→Zqj,set_none→ZpO
open Go.PV.PureF renaming forget→Zp4
open Go.PV.SubH renaming refl→ZpN,of_set→ZpS,none→Zqp
open Int renaming natCast_nonneg→ZqU,toNat_natCast→ZqN
open List renaming map_cons→Zp3,map_nil→Zqa,length_cons→Zqb,length_nil→Zqh,all_cons→Zqn,all_nil→Zqv,drop→ZpL,set_cons_zero→Zqs,set_cons_succ→Zqy,drop_eq_nil_of_le→Zp9,getElem_mem→ZpW,getD_cons_zero→ZqM,getD_cons_succ→Zqw,getD_nil→Zqx
open Nat renaming reduceEqDiff→ZpI,reduceLT→ZpJ,reduceAdd→ZpT,succ_ne_self→Zp7,zero_add→Zp2,le_refl→ZpY,add_zero→ZqB
set_option maxRecDepth 20000
set_option maxHeartbeats 4000000
namespace Go.PV.YtglpmlbbaedbiaaGreat
open Go Go.Proofs
theorem equalEr {l m:List Ex} {f:VV} {p:Ex→Ex→Bool} {H:AH} {K:VE→AH→Prop} (hl:l.length≤1099511627776)
 (hf:∀ (i:Nat) (h:i<l.length) (h':i<m.length) H',SubH H H'→FnAt Tryz.prog f [exV l[i],exV m[i]] (boolV (p l[i] m[i])) H') (hK:K (.ret (boolV (eqL p l m))) H):ZT Tryz.prog 36 [exsV l,exsV m,f] H K:=by
 refine ReadF.use (x:=boolV (eqL p l m)) ?_ hK;clear hK;refine ZE fd36 (by simp) ?_;delta c36 Zq Za Ze Zn Zr
 (repeat' (first | (simp only [↓Zz,ZA,intV,boolV,ZpI,ZpJ,reduceCtorEq,ZD,undef,Yx,ZU, *]) | (refine Yh ?_ ?_<;>intro) | (refine ZG ?_) | (exact ZpN _) | (with_reducible refine And.intro ?_ ?_)))
 ·rename_i h;rw [eqL_ne (by simp at h; omega)]
 ·rename_i h;have hlm:l.length=m.length:=by simp at h; omega
  refine ZP (fun _ _ _ h=>h) (fun A H'=>SubH H H'∧A.d=[]∧A.t 1=exsV m∧A.t 2=f∧A.t 15=exsV l∧A.t 16=iV l.length∧∃ (i:Nat),i≤l.length∧A.t 17=iV i∧eqL p l m=eqL p (l.drop i) (m.drop i))
   (fun A _=>match A.t 17 with | .lit (.int _ i)=>((l.length:Int)-i).toNat | _=>0) ?_ ?_
  ·exact ⟨ZpN _,rfl,rfl,rfl,rfl,rfl,0,by omega,rfl,rfl⟩
  ·clear h;rintro ⟨t,d⟩ H' ⟨hs',rfl,h1,h2,h15,h16,i,hi,h17,he⟩;dsimp only at h1 h2 h15 h16 h17;rw [he];clear he;delta b36_1 Zn Zr Za Zk Zb Zi Zc Zg Zq Zm
   (repeat' (first | (refine (hf _ _ _ _ ?_) _ ?_) | (simp only [↓Wq,↓Wg,↓XM,↓XN,↓XZ,↓Znk,↓WX,↓Xe,↓Yf,↓Yi,↓Zks,↓Wa,↓ZdY,↓s_inE,↓ZbR,↓Yu,↓Yr,↓XJ,↓Ys,↓XK,↓Yt,↓YS,↓ZC,↓Xb,↓YH,↓YA,↓YU,↓Wr,↓s_un,↓Wv,↓Xf,↓XP,↓JS,↓Wm,↓Zbo,ptrV,boolV,Zp3,Zqa,Zqb,Zqh,ite_true,ite_false,ZpI,ZpJ,ZpT,true_and,Zp7,decide_true,decide_false,ZqU,ZqN,ZpU,Zqj,setAt,Zqn,Zqv,Zqo,eq_self,Zp2,ZpL,and_self,XT,Int.ofNat_lt,XS,We,YT,Xi,Zqs,Zqy,↓Ww,XW,ZpY,ZbA,XG,ZcQ,ZaF,XH,ZbB,Xr,WP,WQ,XI,Int.ofNat_lt,YZ,Yd,Zbh,YE,Wj,Yc,Yx,ZU, *]) | (refine ZX ?_ ?_<;>intro) | (refine Yh ?_ ?_<;>intro) | (refine ZG ?_) | (refine ZV rfl (fun _ _ _ h=>h) ?_) | (refine ZB fun zr zh=>?_; have zg:=zh; (try simp only [ZpO] at zg)) | (refine ZpS ?_ ?_) | (exact Zqp (by assumption) (by assumption)) | (exact Zqp (by assumption) zg.2) | (with_reducible refine And.intro ?_ ?_)))
   ·rename_i h2;have h1:i<m.length:=by assumption
    rw [ZdD (by omega) h1,show p l[i] m[i]=false from by simpa using h2];rfl
   ·rename_i h2;have h1:i<m.length:=by assumption
    rw [ZK (n:=(i:Int)+1) (by omega) (by omega)];exact ⟨i+1,by omega,rfl,by rw [ZdD (by omega) h1,show p l[i] m[i]=true from by simpa using h2,Bool.true_and]⟩
   ·rw [ZK (n:=(i:Int)+1) (by omega) (by omega)];omega
   ·rw [Zp9 (by omega),Zp9 (by omega)];delta c36_1 Zq
    (repeat' (first | (simp only [↓Zz,ZA,ZpI,ZpJ, *]) | (refine ZG ?_)))
    rfl
theorem same_ok (a:Ex):∀ b,a.sz≤1099511627776→b.sz≤1099511627776→PureF Tryz.prog 14 [exV a,exV b] (boolV (a.beq b)):=by
 refine Ex.ind (p:=fun a=>∀ b,a.sz≤1099511627776→b.sz≤1099511627776→PureF Tryz.prog 14 [exV a,exV b] (boolV (a.beq b))) (fun a ih b ha hb=>?_) a;have l1:=YN a.kids;have l2:=YN b.kids;have z1:=a.sz_eq;have z2:=b.sz_eq;have ih':∀ (i:Nat) (h:i<a.kids.length) (h':i<b.kids.length),PureF Tryz.prog 14 [exV a.kids[i],exV b.kids[i]] (boolV (a.kids[i].beq b.kids[i])):=fun i h h'=>ih _ (ZpW h) _ (by have:=Ya (ZpW h); omega) (by have:=Ya (ZpW h'); omega)
 have n1:a.kids.length≤1099511627776:=by omega
 have n2:b.kids.length≤1099511627776:=by omega
 clear ih z1 z2 l1 l2 ha hb;rw [a.beq_eq];refine Zp4 fun H=>?_
 refine ZE fd14 (by simp) ?_;delta c14 Zj Zq Zd Zb Zn Za Zp Zr Zc
 (repeat' (first | (refine equalEr n1 (p:=Ex.beq) (fun i h h' H' _=>FnAt.lit en_14 (ih' i h h')) ?_) | (simp only [↓Wg,↓XM,↓WX,↓Xe,↓Yf,↓Zag,↓JE,↓Zcf,↓Yi,↓Yu,↓Yr,↓Ys,↓Yt,↓YS,↓WZ,↓ZC,↓Xb,↓YH,↓Jh,↓Zah,↓Zbn,↓YA,↓Wr,↓ZdZ,↓Yb,↓XP,↓XF,↓XA,↓Xw,ptrV,boolV,Zp3,Zqa,ZqM,Zqw,Zqx,ite_true,ite_false,ZpI,ZpJ,ne_eq,not_false_eq_true,true_and,ZqP,Zp7,decide_true,decide_false,Bool.true_and,Bool.false_and,ZN,ZD,ZpU,eq_self,Zp2,ZqB,ZpL,Wi,YT,↓Zd3,XG,WY,XH,Xr,WO,undef,Yg,ZO,Ym,ZZ,Yk,ZR,ZQ,ZW,Xa,Ye,en_36, *]) | (refine Jk ?_ ?_<;>intro) | (refine ZG ?_) | (refine ZB fun zr zh=>?_; have zg:=zh; (try simp only [ZpO] at zg)) | (exact ZpN _) | (refine ZpS ?_ ?_)))
end Go.PV.YtglpmlbbaedbiaaGreat
end
section
open Go.PV.AH renaming set_none→ZpO,ne_of→ZpK,get→ZpU
open Go.PV.PureF renaming forget→Zp4,use→ZpQ
open Go.PV.SubH renaming refl→ZpN,of_set→ZpS,new→ZpR
open List renaming drop→ZpL
open Nat renaming reduceEqDiff→ZpI,reduceLT→ZpJ,reduceAdd→ZpT
set_option maxRecDepth 20000
set_option maxHeartbeats 8000000
namespace Go.PV.YtglpmlbbaedbiaaGreat
open Go Go.Proofs
theorem Zpc {ox oy:Operand} {a b:Bool} {H:AH} {K:VE→AH→Prop}:vcBin Tryz.prog .eql 4 ox oy (.lit (.bool a)) (.lit (.bool b)) H K=K (.ret (boolV (a == b))) H:=by
 have hu:(Tryz.prog).underlying 4=some .bool:=Tryz.underlying4;unfold vcBin;simp only [Yw];exact propext ⟨fun h=>h.2.2 _ rfl,fun h=>⟨hu,.inr (.inr hu),fun c hb=>by rw [show c=(a == b) from hb]; exact h⟩⟩
theorem eql_bbR {ox oy:Operand} {b:Bool} {H:AH} {K:VE→AH→Prop}:vcBin Tryz.prog .eql 4 ox oy (.lit (.bool b)) (.lit (.bool b)) H K=K (.ret (boolV true)) H:=by
 cases b<;>exact Zpc
def RnA (H0:AH) (p:Pr) (a b:Ex) (fu:Int) (x:Ex) (c k:Int) (r4 r5 r6 r13:Nat) (A:AF) (H:AH):Prop:=SubH H0 H∧A.d=[]∧A.t 3=iV fu∧A.t 4=ptrV r4 0∧A.t 5=ptrV r5 0∧A.t 6=ptrV r6 0∧A.t 13=ptrV r13 0∧A.t 14=iV k ∧
 H r4=some (.cells 25 [cosV p.cons,fusV p.funs] 0)∧H r5=some (.cells 28 [iV a.op,sV a.name,encS exE a.kids] 0)∧H r6=some (.cells 28 [iV b.op,sV b.name,encS exE b.kids] 0)∧H r13=some (.cells 37 [iV x.op,sV x.name,exsV x.kids,iV c] 0)
def RnB (H0:AH) (p:Pr) (a b:Ex) (fu:Int) (x:Ex) (c k:Int) (q:Bool) (k2:Int) (A:AF) (H:AH):Prop:=∃ r4 r5 r6 r13 r15,RnA H0 p a b fu x c k r4 r5 r6 r13 A H∧A.t 15=ptrV r15 0∧A.t 16=iV k∧A.t 17=boolV q∧A.t 18=iV k2∧H r15=some (.cells 48 [iV x.op,sV x.name,exsV x.kids,iV c] 0)
theorem eruns_ok (p:Pr) (a b:Ex) (fu:Int) (hw:prWt p≤1048576) (hwa:a.wt≤1048576) (hwb:b.wt≤1048576) (haw:PureF Tryz.prog 7 [] (boolV true)):PureF Tryz.prog 3 [prV p,exV a,exV b,iV fu] (boolV true):=by
 obtain ⟨hin,hrp,hps,_,_⟩:=pr_ok hw;have hes:=a.sz_wt;have hen:=a.nmOk_wt (by omega);have hes':=b.sz_wt;have hen':=b.nmOk_wt (by omega);have hnd:=Zim a (by omega);have hnd':=Zim b (by omega);have hsm:=small_ok p 200 (by omega);refine Zp4 fun H=>?_
 by_cases h1:(prSz p:Int)≤200
 ·rw [decide_eq_true h1] at hsm;by_cases h2:150<(a.sz:Int)
  ·refine ZE fd3 (by simp) ?_;delta c3 Zj Zq Zb Zo Zr Za Zh Zc Zp Zt Zi Zg Zs Zd
   (repeat' (first | (simp only [↓Zz,ZA,ZI,ptrV,boolV,ZpI,ZpJ,ZN,ZD,ZpL,undef,Yd,Xn,en_5,en_6,en_7, *]) | (refine ZG ?_) | (refine ZB fun zr zh=>?_; have zg:=zh; (try simp only [ZpO] at zg)) | (exact ZpN _) | (refine ZpS ?_ ?_) | (refine ZpQ (hnd) ?_) | (refine ZpQ (hnd') ?_) | (refine ZpQ (hsm) ?_) | (refine ZpQ (haw) ?_)))
  ·by_cases h2':150<(b.sz:Int)
   ·refine ZE fd3 (by simp) ?_;delta c3 Zj Zq Zb Zo Zr Za Zh Zc Zp Zt Zi Zg Zs Zd
    (repeat' (first | (simp only [↓Zz,ZA,ZI,ptrV,boolV,ZpI,ZpJ,ZN,ZD,ZpL,undef,Yd,Xn,en_5,en_6,en_7, *]) | (refine ZG ?_) | (refine ZB fun zr zh=>?_; have zg:=zh; (try simp only [ZpO] at zg)) | (exact ZpN _) | (refine ZpS ?_ ?_) | (refine ZpQ (hnd) ?_) | (refine ZpQ (hnd') ?_) | (refine ZpQ (hsm) ?_) | (refine ZpQ (haw) ?_)))
   ·by_cases h5:80<fu∧fu≤100000
    ·obtain ⟨h3,h4⟩:=h5;refine ZE fd3 (by simp) ?_;delta c3 Zj Zq Zb Zo Zr Za Zh Zc Zp Zt Zi Zg Zs Zd
     (repeat' (first | (simp only [↓Zz,ZA,ZI,ptrV,boolV,ZpI,ZpJ,ZD,ZpL,undef,Yd,Xn,en_5,en_6,en_7, *]) | (refine ZG ?_) | (refine ZB fun zr zh=>?_; have zg:=zh; (try simp only [ZpO] at zg)) | (exact ZpN _) | (refine ZpS ?_ ?_) | (refine ZpQ (hnd) ?_) | (refine ZpQ (hnd') ?_) | (refine ZpQ (hsm) ?_) | (refine ZpQ (haw) ?_)))
    ·have hpr:=prog_ok p (by omega);have hca:=Zin a (by omega);have hcb:=Zin b (by omega);have hra:=Zny (fu:=fu) hin.ok (e:=a) (by omega) hen;have hrra:=ZkB (fu:=fu) hin.ok hrp (e:=a) (by omega) hen;have heq:=eq_ok (fu:=fu) hin.ok (a:=a) (b:=b) (by omega) hen (by omega) hen';have hreq:=req_ok (fu:=fu) hin.ok hrp (a:=a) (b:=b) (by omega) hen (by omega) hen';have z1:=Zgi p a fu;generalize runF p a fu=R1 at *
     generalize Zi4 p a b fu=R2 at *
     obtain ⟨x,c,k⟩:=R1;obtain ⟨q,k2⟩:=R2;dsimp only at z1;unfold runX at hra hrra;unfold eqX at heq hreq;dsimp only at hra hrra heq hreq;have s1:=same_ok x x (by omega) (by omega);rw [(Ex.beq_iff _ _).2 rfl] at s1;clear hin hrp hps hen hen' hw hwa hwb hes hes' z1;refine ZiY fd3 (by simp) ?_;delta c3 Zj Zq Zb Zo Zr Za Zh Zc Zp Zt Zi Zg Zs Zd;refine Zil (l:=[_,_,_,_,_]) (K:=fun A H2=>∃ r4 r5 r6 r13,RnA H p a b fu x c k r4 r5 r6 r13 A H2) (fun _ _ _ h=>h) ?_ _ _ ?_
     ·clear h5 hnd hnd' hsm h1 h2 h2';rintro ⟨t,d⟩ B ⟨r4,r5,r6,r13,hsb,rfl,h3,h4,h5,h6,h13,h14,k4,k5,k6,k13⟩;dsimp only at h3 h4 h5 h6 h13 h14;refine Zil (l:=[_,_]) (K:=RnB H p a b fu x c k q k2) (fun _ _ _ h=>h) ?_ _ _ ?_
      ·clear h3 h4 h5 h6 h13 h14 k4 k5 k6 k13 hsb;rintro ⟨t,d⟩ B ⟨r4,r5,r6,r13,r15,⟨hsb,rfl,h3,h4,h5,h6,h13,h14,k4,k5,k6,k13⟩,h15,h16,h17,h18,k15⟩;dsimp only at h3 h4 h5 h6 h13 h14 h15 h16 h17 h18;clear hpr hca hcb hra hrra heq;refine ZV rfl (fun _ _ _ h=>h) ?_
       (repeat' (first | (simp only [↓Zz,ZA,ZI,ptrV,boolV,ZpI,ZpJ,reduceCtorEq,ZpL,eql_bbR,ZlE,ZlF,flT_37_1,flT_48_1,Yd,Xn,YZ,ZQ,en_7,en_13,en_14, *]) | (refine ZG ?_) | (refine ZpQ (hreq) ?_) | (refine ZpQ (s1) ?_) | (refine ZpQ (haw) ?_)))
       all_goals first
        | exact hsb
        | exact hsb.none zg
      ·simp only [vcs]
       (repeat' (first | (simp only [↓Zz,ZA,ZI,ptrV,boolV,ZpI,ZpJ,ZpT,setAt,ZpL,Yd,Xn,ZbW,ZaV,en_9,Zmd,Zpo,en_12, *]) | (refine ZJ mixed (fun _ _ _ _ e h=>⟨e.trans h.1,h.2⟩) _ (ZpN _) ?_) | (refine ZB fun zr zh=>?_; have zg:=zh; (try simp only [ZpO] at zg); (try have zn_k4:=ZpK k4 zh); (try have zn_k4:=ZpK k4 zg.2); (try have zn_k4:=ZpK k4 zg.2.2); (try have zn_k5:=ZpK k5 zh); (try have zn_k5:=ZpK k5 zg.2); (try have zn_k5:=ZpK k5 zg.2.2); (try have zn_k6:=ZpK k6 zh); (try have zn_k6:=ZpK k6 zg.2); (try have zn_k6:=ZpK k6 zg.2.2); (try have zn_k13:=ZpK k13 zh); (try have zn_k13:=ZpK k13 zg.2); (try have zn_k13:=ZpK k13 zg.2.2)) | (exact ZpN _) | (refine ZpQ (hpr) ?_) | (refine ZpQ (hca) ?_) | (refine ZpQ (hcb) ?_) | (refine ZpQ (hrra) ?_) | (refine ZpQ (heq) ?_) | (with_reducible refine And.intro ?_ ?_)))
       have y15:=hsb.none zg;exact ⟨r4,r5,r6,r13,zr,⟨hsb.of_set y15,rfl,(by simp only [ZC,ZpI,if_false, *]<;>rfl),(by simp only [ZC,ZpI,if_false, *]<;>rfl),(by simp only [ZC,ZpI,if_false, *]<;>rfl),(by simp only [ZC,ZpI,if_false, *]<;>rfl),(by simp only [ZC,ZpI,if_false, *]<;>rfl),(by simp only [ZC,ZpI,if_false, *]<;>rfl),(by simp only [ZpU, *,if_false]<;>rfl),(by simp only [ZpU, *,if_false]<;>rfl),(by simp only [ZpU, *,if_false]<;>rfl),(by simp only [ZpU, *,if_false]<;>rfl)⟩,(by simp only [ZC,ZpI,if_true,if_false, *]<;>rfl),(by simp only [ZC,ZpI,if_true,if_false, *]<;>rfl),(by simp only [ZC,ZpI,if_true,if_false, *]<;>rfl),(by simp only [ZC,ZpI,if_true,if_false, *]<;>rfl),(by simp only [ZpU, *,if_true]<;>rfl)⟩
     ·simp only [vcs];by_cases h3:80<fu
      ·have h4:¬ fu≤100000:=fun h=>h5 ⟨h3,h⟩
       clear h5
       (repeat' (first | (simp only [↓Zz,ZA,ZI,ptrV,boolV,ZpI,ZpJ,ZpT,ZD,setAt,ZpL,undef,Yd,Xn,Zco,Zcp,en_5,en_6,en_9,Zmd,en_8, *]) | (refine ZJ mixed (fun _ _ _ _ e h=>⟨e.trans h.1,h.2⟩) _ (ZpN _) ?_) | (refine And.intro (ZpR (by assumption)) ?_) | (refine ZB fun zr zh=>?_; have zg:=zh; (try simp only [ZpO] at zg)) | (exact ZpN _) | (refine ZpQ (hnd) ?_) | (refine ZpQ (hnd') ?_) | (refine ZpQ (hsm) ?_) | (refine ZpQ (hpr) ?_) | (refine ZpQ (hca) ?_) | (refine ZpQ (hra) ?_) | (with_reducible refine And.intro ?_ ?_)))
       all_goals rename_i r4 n4 n4' r5 n5 n5' r6 n6 n6'
       all_goals exact ⟨r4,r5,r6,zr,(((ZpR n4').of_set n5'.2).of_set n6'.2.2).of_set zg.2.2.2,rfl,(by simp only [ZC,ZpI,if_false, *]<;>rfl),(by simp only [ZC,ZpI,if_true,if_false, *]<;>rfl),(by simp only [ZC,ZpI,if_true,if_false, *]<;>rfl),(by simp only [ZC,ZpI,if_true,if_false, *]<;>rfl),(by simp only [ZC,ZpI,if_true,if_false, *]<;>rfl),(by simp only [ZC,ZpI,if_true,if_false, *]<;>rfl),(by simp only [ZpU, *,if_true,if_false]<;>rfl),(by simp only [ZpU, *,if_true,if_false]<;>rfl),(by simp only [ZpU, *,if_true,if_false]<;>rfl),(by simp only [ZpU, *,if_true,if_false]<;>rfl)⟩
      ·clear h5
       (repeat' (first | (simp only [↓Zz,ZA,ZI,ptrV,boolV,ZpI,ZpJ,ZpT,ZN,ZD,setAt,ZpL,undef,Yd,Xn,Zco,Zcp,en_5,en_6,en_9,Zmd,en_8, *]) | (refine ZJ mixed (fun _ _ _ _ e h=>⟨e.trans h.1,h.2⟩) _ (ZpN _) ?_) | (refine And.intro (ZpR (by assumption)) ?_) | (refine ZB fun zr zh=>?_; have zg:=zh; (try simp only [ZpO] at zg)) | (exact ZpN _) | (refine ZpQ (hnd) ?_) | (refine ZpQ (hnd') ?_) | (refine ZpQ (hsm) ?_) | (refine ZpQ (hpr) ?_) | (refine ZpQ (hca) ?_) | (refine ZpQ (hra) ?_) | (with_reducible refine And.intro ?_ ?_)))
       all_goals rename_i r4 n4 n4' r5 n5 n5' r6 n6 n6'
       all_goals exact ⟨r4,r5,r6,zr,(((ZpR n4').of_set n5'.2).of_set n6'.2.2).of_set zg.2.2.2,rfl,(by simp only [ZC,ZpI,if_false, *]<;>rfl),(by simp only [ZC,ZpI,if_true,if_false, *]<;>rfl),(by simp only [ZC,ZpI,if_true,if_false, *]<;>rfl),(by simp only [ZC,ZpI,if_true,if_false, *]<;>rfl),(by simp only [ZC,ZpI,if_true,if_false, *]<;>rfl),(by simp only [ZC,ZpI,if_true,if_false, *]<;>rfl),(by simp only [ZpU, *,if_true,if_false]<;>rfl),(by simp only [ZpU, *,if_true,if_false]<;>rfl),(by simp only [ZpU, *,if_true,if_false]<;>rfl),(by simp only [ZpU, *,if_true,if_false]<;>rfl)⟩
 ·rw [decide_eq_false h1] at hsm;refine ZE fd3 (by simp) ?_;delta c3 Zj Zq Zb Zo Zr Za Zh Zc Zp Zt Zi Zg Zs Zd
  (repeat' (first | (simp only [↓Zz,ZA,ZI,ptrV,boolV,ZpI,ZpJ,ZN,ZD,ZpL,undef,Yd,Xn,en_5,en_6,en_7, *]) | (refine ZG ?_) | (refine ZB fun zr zh=>?_; have zg:=zh; (try simp only [ZpO] at zg)) | (exact ZpN _) | (refine ZpS ?_ ?_) | (refine ZpQ (hnd) ?_) | (refine ZpQ (hnd') ?_) | (refine ZpQ (hsm) ?_) | (refine ZpQ (haw) ?_)))
end Go.PV.YtglpmlbbaedbiaaGreat
end
section
open Nat renaming beq→ZpX
namespace Go.PV
inductive EV where
 | lit (v:Value)
 | ptr (k o:Nat)
 | sl (k o n:Nat) (c:Option Nat) (d:Nat)
 | es (k o d lo s:Nat)
 | map (k:Nat)
 | isl (ex:Bool) (n:Nat) (cs:List EV)
 | iptr (cs:List EV)
 | agg (cs:List EV)
 | tuple (cs:List EV)
 | func (f:FuncId) (first cap:List EV)
 | yield (k:Nat)
 | iface (t:TypeId) (x:EV)
instance:Inhabited EV:=⟨.lit undef⟩
structure Pay where
 r:Nat
 c:Nat:=0
 fn:FuncId:=0
 ca:Code:=.skip
 cb:Code:=.skip
 t:Nat→VV:=fun _=>ZD
abbrev Sg:=Nat→Option Pay
def Ext (σ σ':Sg):Prop:=∀ k p,σ k=some p→σ' k=some p
theorem Ext.refl (σ:Sg):Ext σ σ:=fun _ _ h=>h
theorem Ext.trans {σ σ' σ'':Sg} (h:Ext σ σ') (k:Ext σ' σ''):Ext σ σ'':=fun i p hp=>k i p (h i p hp)
mutual
def RV (σ:Sg):EV→VV→Prop
 | .lit v,x=>x=.lit v
 | .ptr k o,x=>∃ p,σ k=some p∧x=ptrV p.r o
 | .sl k o n c d,x=>∃ p,σ k=some p∧n≤c.getD p.c-d∧x=.lit (.slice (some ⟨p.r,o,none⟩) n (c.getD p.c-d))
 | .es k o d lo s,x=>∃ p,σ k=some p∧x=.lit (.slice (some ⟨p.r,if p.c-d=lo then o else o+lo * s,none⟩) 0 (p.c-d-lo))
 | .map k,x=>∃ p,σ k=some p∧x=.lit (.map (some p.r))
 | .isl ex n cs,x=>∃ ys,x=.slice ex n ys∧RVL σ cs ys
 | .iptr cs,x=>∃ ys,x=.iptr ys∧RVL σ cs ys
 | .agg cs,x=>∃ ys,x=.agg ys∧RVL σ cs ys
 | .tuple cs,x=>∃ ys,x=.tuple ys∧RVL σ cs ys
 | .func f a b,x=>∃ asg bs,x=.func (.func f) asg bs∧RVL σ a asg∧RVL σ b bs
 | .yield k,x=>∃ p,σ k=some p∧x=.lit (.func (.yield p.r) #[] #[])
 | .iface t v,x=>∃ y,x=.iface t y∧RV σ v y
def RVL (σ:Sg):List EV→List VV→Prop
 | [],ys=>ys=[]
 | v::vs,ys=>∃ y ys',ys=y::ys'∧RV σ v y∧RVL σ vs ys'
end
section
variable {σ σ':Sg}
mutual
theorem RV.mono (h:Ext σ σ'):∀ (v:EV) (x:VV),RV σ v x→RV σ' v x
 | .lit v,x,hx=>hx
 | .ptr k o,x,⟨p,hp,e⟩=>⟨p,h k p hp,e⟩
 | .sl k o n c d,x,⟨p,hp,e⟩=>⟨p,h k p hp,e⟩
 | .es k o d lo s,x,⟨p,hp,e⟩=>⟨p,h k p hp,e⟩
 | .map k,x,⟨p,hp,e⟩=>⟨p,h k p hp,e⟩
 | .isl ex n cs,x,⟨ys,e,hl⟩=>⟨ys,e,RVL.mono h cs ys hl⟩
 | .iptr cs,x,⟨ys,e,hl⟩=>⟨ys,e,RVL.mono h cs ys hl⟩
 | .agg cs,x,⟨ys,e,hl⟩=>⟨ys,e,RVL.mono h cs ys hl⟩
 | .tuple cs,x,⟨ys,e,hl⟩=>⟨ys,e,RVL.mono h cs ys hl⟩
 | .func f a b,x,⟨asg,bs,e,h1,h2⟩=>⟨asg,bs,e,RVL.mono h a asg h1,RVL.mono h b bs h2⟩
 | .yield k,x,⟨p,hp,e⟩=>⟨p,h k p hp,e⟩
 | .iface t v,x,⟨y,e,hv⟩=>⟨y,e,RV.mono h v y hv⟩
theorem RVL.mono (h:Ext σ σ'):∀ (vs:List EV) (xs:List VV),RVL σ vs xs→RVL σ' vs xs
 | [],xs,hx=>hx
 | v::vs,xs,⟨y,ys,e,h1,h2⟩=>⟨y,ys,e,RV.mono h v y h1,RVL.mono h vs ys h2⟩
end
mutual
theorem RV.fn (h:Ext σ σ'):∀ (v:EV) (x y:VV),RV σ v x→RV σ' v y→x=y
 | .lit v,x,y,hx,hy=>hx.trans hy.symm
 | .ptr k o,x,y,⟨p,hp,e⟩,⟨q,hq,e'⟩=>by rw [h k p hp] at hq; cases hq; rw [e,e']
 | .sl k o n c d,x,y,⟨p,hp,_,e⟩,⟨q,hq,_,e'⟩=>by rw [h k p hp] at hq; cases hq; rw [e,e']
 | .es k o d lo s,x,y,⟨p,hp,e⟩,⟨q,hq,e'⟩=>by rw [h k p hp] at hq; cases hq; rw [e,e']
 | .map k,x,y,⟨p,hp,e⟩,⟨q,hq,e'⟩=>by rw [h k p hp] at hq; cases hq; rw [e,e']
 | .isl ex n cs,x,y,⟨xs,e,hl⟩,⟨ys,e',hl'⟩=>by rw [e,e',RVL.fn h cs xs ys hl hl']
 | .iptr cs,x,y,⟨xs,e,hl⟩,⟨ys,e',hl'⟩=>by rw [e,e',RVL.fn h cs xs ys hl hl']
 | .agg cs,x,y,⟨xs,e,hl⟩,⟨ys,e',hl'⟩=>by rw [e,e',RVL.fn h cs xs ys hl hl']
 | .tuple cs,x,y,⟨xs,e,hl⟩,⟨ys,e',hl'⟩=>by rw [e,e',RVL.fn h cs xs ys hl hl']
 | .func f a b,x,y,⟨asg,bs,e,h1,h2⟩,⟨as',bs',e',h1',h2'⟩=>by rw [e,e',RVL.fn h a asg as' h1 h1',RVL.fn h b bs bs' h2 h2']
 | .yield k,x,y,⟨p,hp,e⟩,⟨q,hq,e'⟩=>by rw [h k p hp] at hq; cases hq; rw [e,e']
 | .iface t v,x,y,⟨a,e,hv⟩,⟨b,e',hv'⟩=>by rw [e,e',RV.fn h v a b hv hv']
theorem RVL.fn (h:Ext σ σ'):∀ (vs:List EV) (xs ys:List VV),RVL σ vs xs→RVL σ' vs ys→xs=ys
 | [],xs,ys,hx,hy=>Eq.trans (show xs=[] from hx) (show ys=[] from hy).symm
 | v::vs,xs,ys,⟨y,ys',e,h1,h2⟩,⟨z,zs',e',h1',h2'⟩=>by rw [e,e',RV.fn h v y z h1 h1',RVL.fn h vs ys' zs' h2 h2']
end
theorem RVL.length {vs:List EV}:∀ {xs:List VV},RVL σ vs xs→xs.length=vs.length:=by
 induction vs with
 | nil=>intro xs h; simp [RVL] at h; simp [h]
 | cons v vs ih =>
   intro xs h;obtain ⟨y,ys,rfl,_,h2⟩:=h;simp [ih h2]
theorem RVL.get? {vs:List EV}:∀ {xs:List VV} (i:Nat) (v:EV),RVL σ vs xs→vs[i]?=some v→∃ x,xs[i]?=some x∧RV σ v x:=by
 induction vs with
 | nil=>intro xs i v h hv; simp at hv
 | cons u us ih =>
   intro xs i v h hv;obtain ⟨y,ys,rfl,h1,h2⟩:=h;cases i with
   | zero=>simp at hv; subst hv; exact ⟨y,by simp,h1⟩
   | succ i=>simpa using ih i v h2 (by simpa using hv)
theorem RVL.append {vs us:List EV}:∀ {xs ys:List VV},RVL σ vs xs→RVL σ us ys→RVL σ (vs++us) (xs++ys):=by
 induction vs with
 | nil=>intro xs ys h1 h2; simp [RVL] at h1; subst h1; simpa using h2
 | cons v vs ih =>
   intro xs ys h1 h2;obtain ⟨y,ys',rfl,h3,h4⟩:=h1;exact ⟨y,ys'++ys,rfl,h3,ih h4 h2⟩
theorem RVL.take {vs:List EV}:∀ {xs:List VV} (n:Nat),RVL σ vs xs→RVL σ (vs.take n) (xs.take n):=by
 induction vs with
 | nil=>intro xs n h; simp [RVL] at h; subst h; simp [RVL]
 | cons v vs ih =>
   intro xs n h;obtain ⟨y,ys,rfl,h3,h4⟩:=h;cases n with
   | zero=>simp [RVL]
   | succ n=>exact ⟨y,ys.take n,by simp,h3,ih n h4⟩
theorem RVL.drop {vs:List EV}:∀ {xs:List VV} (n:Nat),RVL σ vs xs→RVL σ (vs.drop n) (xs.drop n):=by
 induction vs with
 | nil=>intro xs n h; simp [RVL] at h; subst h; simp [RVL]
 | cons v vs ih =>
   intro xs n h;obtain ⟨y,ys,rfl,h3,h4⟩:=h;cases n with
   | zero=>exact ⟨y,ys,rfl,h3,h4⟩
   | succ n=>simpa using ih n h4
theorem RVL.set {vs:List EV}:∀ {xs:List VV} (n:Nat) (v:EV) (x:VV),RVL σ vs xs→RV σ v x→RVL σ (vs.set n v) (xs.set n x):=by
 induction vs with
 | nil=>intro xs n v x h _; simp [RVL] at h; subst h; simp [RVL]
 | cons u us ih =>
   intro xs n v x h hx;obtain ⟨y,ys,rfl,h3,h4⟩:=h;cases n with
   | zero=>exact ⟨x,ys,rfl,hx,h4⟩
   | succ n=>exact ⟨y,ys.set n x,by simp,h3,ih n v x h4 hx⟩
theorem RVL.setAt {us:List EV}:∀ {ys:List VV} {vs:List EV} {xs:List VV} (o:Nat),RVL σ vs xs→RVL σ us ys→RVL σ (PV.setAt vs o us) (PV.setAt xs o ys):=by
 induction us with
 | nil=>intro ys vs xs o h1 h2; simp [RVL] at h2; subst h2; exact h1
 | cons u us ih =>
   intro ys vs xs o h1 h2;obtain ⟨y,ys',rfl,h3,h4⟩:=h2;exact ih (o+1) (h1.set o u y h3) h4
theorem RVL.lits (us:List Value):RVL σ (us.map .lit) (us.map .lit):=by
 induction us with
 | nil=>simp [RVL]
 | cons u us ih=>exact ⟨.lit u,us.map .lit,rfl,by simp [RV],ih⟩
end
def EV.cells:EV→List EV
 | .lit v=>v.cells.toList.map .lit
 | .agg cs=>cs
 | x=>[x]
def EV.one:EV→Bool
 | .lit v=>v.oneCell'
 | .agg _=>false
 | .tuple _=>false
 | _=>true
section
variable {σ:Sg}
theorem RV.cells {v:EV} {x:VV} (h:RV σ v x):RVL σ v.cells x.cells:=by
 cases v with
 | lit v=>obtain rfl:=h; exact RVL.lits _
 | ptr k o=>obtain ⟨p,hp,rfl⟩:=h; exact ⟨_,[],rfl,⟨p,hp,rfl⟩,rfl⟩
 | sl k o n c d=>obtain ⟨p,hp,hn,rfl⟩:=h; exact ⟨_,[],rfl,⟨p,hp,hn,rfl⟩,rfl⟩
 | es k o d lo s=>obtain ⟨p,hp,rfl⟩:=h; exact ⟨_,[],rfl,⟨p,hp,rfl⟩,rfl⟩
 | map k=>obtain ⟨p,hp,rfl⟩:=h; exact ⟨_,[],rfl,⟨p,hp,rfl⟩,rfl⟩
 | yield k=>obtain ⟨p,hp,rfl⟩:=h; exact ⟨_,[],rfl,⟨p,hp,rfl⟩,rfl⟩
 | isl ex n cs=>obtain ⟨ys,rfl,hl⟩:=h; exact ⟨_,[],rfl,⟨ys,rfl,hl⟩,rfl⟩
 | iptr cs=>obtain ⟨ys,rfl,hl⟩:=h; exact ⟨_,[],rfl,⟨ys,rfl,hl⟩,rfl⟩
 | agg cs=>obtain ⟨ys,rfl,hl⟩:=h; exact hl
 | tuple cs=>obtain ⟨ys,rfl,hl⟩:=h; exact ⟨_,[],rfl,⟨ys,rfl,hl⟩,rfl⟩
 | func f a b=>obtain ⟨asg,bs,rfl,h1,h2⟩:=h; exact ⟨_,[],rfl,⟨asg,bs,rfl,h1,h2⟩,rfl⟩
 | iface t v=>obtain ⟨y,rfl,hv⟩:=h; exact ⟨_,[],rfl,⟨y,rfl,hv⟩,rfl⟩
theorem RV.one {v:EV} {x:VV} (h:RV σ v x):v.one=x.one:=by
 cases v with
 | lit v=>obtain rfl:=h; rfl
 | ptr k o=>obtain ⟨p,hp,rfl⟩:=h; rfl
 | sl k o n c d=>obtain ⟨p,hp,_,rfl⟩:=h; rfl
 | es k o d lo s=>obtain ⟨p,hp,rfl⟩:=h; rfl
 | map k=>obtain ⟨p,hp,rfl⟩:=h; rfl
 | yield k=>obtain ⟨p,hp,rfl⟩:=h; rfl
 | isl ex n cs=>obtain ⟨ys,rfl,hl⟩:=h; rfl
 | iptr cs=>obtain ⟨ys,rfl,hl⟩:=h; rfl
 | agg cs=>obtain ⟨ys,rfl,hl⟩:=h; rfl
 | tuple cs=>obtain ⟨ys,rfl,hl⟩:=h; rfl
 | func f a b=>obtain ⟨asg,bs,rfl,h1,h2⟩:=h; rfl
 | iface t v=>obtain ⟨y,rfl,hv⟩:=h; rfl
theorem RVL.ones {vs:List EV}:∀ {xs:List VV},RVL σ vs xs→vs.all EV.one=xs.all VV.one:=by
 induction vs with
 | nil=>intro xs h; simp [RVL] at h; simp [h]
 | cons v vs ih =>
   intro xs h;obtain ⟨y,ys,rfl,h1,h2⟩:=h;simp [h1.one,ih h2]
end
inductive Tr (α:Type) where
 | lf
 | nd (v:Option α) (l r:Tr α)
def Tr.get {α:Type}:Tr α→Nat→Option α
 | .lf,_=>none
 | .nd v l r,k=>match k with
   | 0=>v
   | k+1=>cond (ZpX (k % 2) 0) (l.get (k / 2)) (r.get (k / 2))
def Tr.set {α:Type}:Nat→Tr α→Nat→α→Option (Tr α)
 | 0,_,_,_=>none
 | n+1,t,k,x=>match k with
   | 0=>match t with
     | .lf=>some (.nd (some x) .lf .lf)
     | .nd _ l r=>some (.nd (some x) l r)
   | k+1=>match t with
     | .lf=>cond (ZpX (k % 2) 0) (match Tr.set n .lf (k / 2) x with | some l=>some (.nd none l .lf) | none=>none) (match Tr.set n .lf (k / 2) x with | some r=>some (.nd none .lf r) | none=>none)
     | .nd v l r=>cond (ZpX (k % 2) 0) (match Tr.set n l (k / 2) x with | some l'=>some (.nd v l' r) | none=>none) (match Tr.set n r (k / 2) x with | some r'=>some (.nd v l r') | none=>none)
theorem beqF {n:Nat} (h:¬ n=0):ZpX n 0=false:=by
 cases n with
 | zero=>exact absurd rfl h
 | succ n=>rfl
theorem Tr.get_set {α:Type}:∀ (n:Nat) (t:Tr α) (k:Nat) (x:α) (t':Tr α),Tr.set n t k x=some t'→∀ j,t'.get j=if j=k then some x else t.get j
 | 0,t,k,x,t',h=>by simp [Tr.set] at h
 | n+1,t,k,x,t',h=>by
   intro j;cases k with
   | zero =>
     cases t with
     | lf =>
       simp only [Tr.set,Option.some.injEq] at h;subst h;cases j with
       | zero=>simp [Tr.get]
       | succ j=>simp [Tr.get]
     | nd v l r =>
       simp only [Tr.set,Option.some.injEq] at h;subst h;cases j with
       | zero=>simp [Tr.get]
       | succ j=>simp [Tr.get]
   | succ k =>
     have hk:∀ j,(j % 2=k % 2)→(j / 2=k / 2)→j=k:=fun j h1 h2=>by omega
     cases t with
     | lf =>
       simp only [Tr.set] at h;by_cases hp:k % 2=0
       ·simp only [hp,Nat.beq_refl,cond_true] at h;cases hs:Tr.set n .lf (k / 2) x with
        | none=>simp [hs] at h
        | some l =>
          simp only [hs,Option.some.injEq] at h;subst h;have ih:=Tr.get_set n _ _ _ _ hs;cases j with
          | zero=>simp [Tr.get]
          | succ j =>
            simp only [Tr.get,Nat.add_right_cancel_iff];by_cases hj:j % 2=0
            ·simp only [hj,Nat.beq_refl,cond_true,ih];by_cases e:j=k
             ·simp [e]
             ·have:j / 2 ≠ k / 2:=fun e'=>e (hk j (by omega) e')
              simp [e,this,Tr.get]
            ·have hb:ZpX (j % 2) 0=false:=beqF hj
             have:j ≠ k:=fun e=>hj (by rw [e,hp])
             simp [hb,this,Tr.get]
       ·have hb:ZpX (k % 2) 0=false:=beqF hp;simp only [hb,cond_false] at h;cases hs:Tr.set n .lf (k / 2) x with
        | none=>simp [hs] at h
        | some l =>
          simp only [hs,Option.some.injEq] at h;subst h;have ih:=Tr.get_set n _ _ _ _ hs;cases j with
          | zero=>simp [Tr.get]
          | succ j =>
            simp only [Tr.get,Nat.add_right_cancel_iff];by_cases hj:j % 2=0
            ·have:j ≠ k:=fun e=>hp (by rw [← e,hj])
             simp [hj,this,Tr.get]
            ·have hbj:ZpX (j % 2) 0=false:=beqF hj;simp only [hbj,cond_false,ih];by_cases e:j=k
             ·simp [e]
             ·have:j / 2 ≠ k / 2:=fun e'=>e (hk j (by omega) e')
              simp [e,this,Tr.get]
     | nd v l r =>
       simp only [Tr.set] at h;by_cases hp:k % 2=0
       ·simp only [hp,Nat.beq_refl,cond_true] at h;cases hs:Tr.set n l (k / 2) x with
        | none=>simp [hs] at h
        | some l' =>
          simp only [hs,Option.some.injEq] at h;subst h;have ih:=Tr.get_set n _ _ _ _ hs;cases j with
          | zero=>simp [Tr.get]
          | succ j =>
            simp only [Tr.get,Nat.add_right_cancel_iff];by_cases hj:j % 2=0
            ·simp only [hj,Nat.beq_refl,cond_true,ih];by_cases e:j=k
             ·simp [e]
             ·have:j / 2 ≠ k / 2:=fun e'=>e (hk j (by omega) e')
              simp [e,this]
            ·have hb:ZpX (j % 2) 0=false:=beqF hj
             have:j ≠ k:=fun e=>hj (by rw [e,hp])
             simp [hb,this]
       ·have hb:ZpX (k % 2) 0=false:=beqF hp;simp only [hb,cond_false] at h;cases hs:Tr.set n r (k / 2) x with
        | none=>simp [hs] at h
        | some l' =>
          simp only [hs,Option.some.injEq] at h;subst h;have ih:=Tr.get_set n _ _ _ _ hs;cases j with
          | zero=>simp [Tr.get]
          | succ j =>
            simp only [Tr.get,Nat.add_right_cancel_iff];by_cases hj:j % 2=0
            ·have:j ≠ k:=fun e=>hp (by rw [← e,hj])
             simp [hj,this]
            ·have hbj:ZpX (j % 2) 0=false:=beqF hj;simp only [hbj,cond_false,ih];by_cases e:j=k
             ·simp [e]
             ·have:j / 2 ≠ k / 2:=fun e'=>e (hk j (by omega) e')
              simp [e,this]
end Go.PV
end
section
open Nat renaming beq→ZpX,eq_of_beq_eq_true→Zp0,ble→Zqc,le_of_ble_eq_true→Zqd
namespace Go.PV
inductive EB where
 | cells (e:TypeId) (cs:List EV)
 | grown (e:TypeId) (s:Nat) (cs:List EV)
 | map (t:TypeId) (l:List (Value × EV))
 | loop (st:LoopState) (jump:Option (Option Nat)) (N:Nat) (t:Tr EV) (ps:Array Tmp) (asg bd:ACode) (r:Nat)
 | deferred
 | dead
def beqU:List UInt8→List UInt8→Bool
 | [],[]=>true
 | a::asg,b::bs=>cond (ZpX a.toNat b.toNat) (beqU asg bs) false
 | _,_=>false
theorem Zf6:∀ (a b:List UInt8),beqU a b=true↔a=b
 | [],[]=>by simp [beqU]
 | [],b::bs=>by simp [beqU]
 | a::asg,[]=>by simp [beqU]
 | a::asg,b::bs=>by
   simp only [beqU,List.cons.injEq];cases h:ZpX a.toNat b.toNat with
   | false =>
     have:a ≠ b:=fun e=>by rw [e,Nat.beq_refl] at h; cases h
     simp [this]
   | true =>
     have:a=b:=UInt8.toNat_inj.1 (Zp0 h)
     simp [this,Zf6 asg bs]
theorem toListB (a:ByteArray):a.toList=a.data.toList:=ByteArray.toList_eq a
def goodK:Value→Bool
 | .int _ _=>true
 | .string _=>true
 | .bool _=>true
 | _=>false
def Zi5:List Value→Bool
 | []=>true
 | v::vs=>cond (goodK v) (Zi5 vs) false
def beqK:Value→Value→Bool
 | .int k a,.int k' b=>cond (decide (k=k')) (decide (a=b)) false
 | .string a,.string b=>beqU a.data.toList b.data.toList
 | .bool a,.bool b=>cond a b (!b)
 | _,_=>false
theorem Zf7 {a b:Value} (ha:goodK a=true):beqK a b=true↔a=b:=by
 cases a with
 | int k n =>
   cases b<;>simp [beqK]
 | string s =>
   cases b<;>simp only [beqK]<;>try simp
   rename_i s';rw [Zf6]
   constructor
   ·intro h;cases s; cases s';simp only [ByteArray.mk.injEq];exact Array.toList_inj.1 h
   ·rintro rfl; rfl
 | bool p =>
   cases b<;>simp only [beqK]<;>try simp
   rename_i q;cases p<;>cases q<;>simp
 | _=>simp [goodK] at ha
def beqKL:List Value→List Value→Bool
 | [],[]=>true
 | a::asg,b::bs=>cond (beqK a b) (beqKL asg bs) false
 | _,_=>false
theorem ZgC:∀ {a b:List Value},Zi5 a=true→(beqKL a b=true↔a=b)
 | [],[],_=>by simp [beqKL]
 | [],b::bs,_=>by simp [beqKL]
 | a::asg,[],_=>by simp [beqKL]
 | a::asg,b::bs,h=>by
   simp only [Zi5] at h;cases ha:goodK a with
   | false=>simp [ha] at h
   | true =>
     simp only [ha,cond_true] at h;simp only [beqKL,List.cons.injEq,← Zf7 (b:=b) ha];cases hb:beqK a b with
     | false=>simp
     | true=>simp [ZgC h]
def Zgj:Value→Bool
 | .agg vs=>Zi5 vs.toList
 | v=>goodK v
def ZeQ:Value→Value→Bool
 | .agg a,.agg b=>beqKL a.toList b.toList
 | a,b=>beqK a b
theorem Zh3 {a b:Value} (h:Zgj a=true):ZeQ a b=true↔a=b:=by
 cases a with
 | agg vs =>
   cases b with
   | agg us =>
     simp only [ZeQ,ZgC h,Value.agg.injEq];exact ⟨fun h=>Array.toList_inj.1 h,fun h=>by rw [h]⟩
   | _=>simp [ZeQ,beqK]
 | int k n=>cases b<;>simp only [ZeQ]<;>exact Zf7 rfl
 | string k=>cases b<;>simp only [ZeQ]<;>exact Zf7 rfl
 | bool k=>cases b<;>simp only [ZeQ]<;>exact Zf7 rfl
 | _=>simp [Zgj,goodK] at h
def lookM:List (Value × EV)→Value→Option EV
 | [],_=>none
 | (k,v)::l,q=>cond (ZeQ q k) (some v) (lookM l q)
def jumpC:Option (Option Nat)→Option Code
 | none=>none
 | some none=>some .ret
 | some (some id)=>some (.exit id)
def RVo (σ:Sg):Option EV→VV→Prop
 | some v,x=>RV σ v x
 | none,x=>x=ZD
def RM (σ:Sg) (l:List (Value × EV)) (m:Value→Option VV):Prop :=
 ∀ k,Zgj k=true→match lookM l k with
   | none=>m k=none
   | some v=>∃ x,m k=some x∧RV σ v x
def RB (P:Program) (σ:Sg) (p:Pay):EB→Blk→Prop
 | .cells e cs,B=>∃ ys,B=.cells e ys 0∧RVL σ cs ys
 | .grown e s cs,B=>∃ ys sp,B=.cells e ys sp∧RVL σ cs ys∧p.c * s=ys.length+sp∧p.c≤maxLen
 | .map t l,B=>∃ m,B=.map (Jq P t) m∧RM σ l m
 | .loop st j N t ps asg bd r,B=>∃ pe q,B=.loop st pe p.fn N p.t ps p.ca p.cb q.r∧σ r=some q∧(st ≠ .busy→pe=jumpC j)∧ZS P p.ca=asg∧ZS P p.cb=bd∧(P.funcs[p.fn]?).isSome=true∧∀ i,RVo σ (t.get i) (p.t i)
 | .deferred,B=>B=.obj (.deferred (some []))
 | .dead,_=>True
def EB.isDead:EB→Bool
 | .dead=>true
 | _=>false
def RBl (P:Program) (σ:Sg) (k:Nat) (b:EB) (H:AH):Prop:=b.isDead=true∨∃ p B,σ k=some p∧H p.r=some B∧RB P σ p b B
section
variable {P:Program} {σ σ':Sg} {H:AH}
theorem RVo.mono (h:Ext σ σ') {v:Option EV} {x:VV} (hx:RVo σ v x):RVo σ' v x:=by
 cases v with
 | none=>exact hx
 | some v=>exact RV.mono h v x hx
theorem RB.mono (h:Ext σ σ') {p:Pay} {b:EB} {B:Blk} (hb:RB P σ p b B):RB P σ' p b B:=by
 cases b with
 | cells e cs=>obtain ⟨ys,e1,h1⟩:=hb; exact ⟨ys,e1,RVL.mono h _ _ h1⟩
 | grown e s cs=>obtain ⟨ys,sp,e1,h1,h2⟩:=hb; exact ⟨ys,sp,e1,RVL.mono h _ _ h1,h2⟩
 | map t l =>
   obtain ⟨m,e1,h1⟩:=hb;refine ⟨m,e1,fun k hk=>?_⟩
   have:=h1 k hk
   split
   ·rename_i e; rw [e] at this; exact this
   ·rename_i v e; rw [e] at this; obtain ⟨x,g1,g2⟩:=this; exact ⟨x,g1,RV.mono h _ _ g2⟩
 | loop st j N t ps asg bd r =>
   obtain ⟨pe,q,e1,h1,h2,h3,h4,h5,h6⟩:=hb;exact ⟨pe,q,e1,h _ _ h1,h2,h3,h4,h5,fun i=>(h6 i).mono h⟩
 | deferred=>exact hb
 | dead=>trivial
theorem RBl.mono (h:Ext σ σ') {k:Nat} {b:EB} (hb:RBl P σ k b H):RBl P σ' k b H:=by
 rcases hb with hb | ⟨p,B,h1,h2,h3⟩
 ·exact .inl hb
 ·exact .inr ⟨p,B,h _ _ h1,h2,h3.mono h⟩
theorem RB.fn (h:Ext σ σ') {p:Pay} {b:EB} {B B':Blk} (hc:(∃ e cs,b=.cells e cs)∨∃ e s cs,b=.grown e s cs) (hb:RB P σ p b B) (hb':RB P σ' p b B'):B=B':=by
 rcases hc with ⟨e,cs,rfl⟩ | ⟨e,s,cs,rfl⟩
 ·obtain ⟨ys,rfl,h1⟩:=hb;obtain ⟨zs,rfl,h2⟩:=hb';rw [RVL.fn h _ _ _ h1 h2]
 ·obtain ⟨ys,sp,rfl,h1,h3,_⟩:=hb;obtain ⟨zs,sp',rfl,h2,h4,_⟩:=hb';obtain rfl:=RVL.fn h _ _ _ h1 h2
  have:sp=sp':=by omega
  rw [this]
end
def ldE (n:Nat) (ag:Bool) (cs:List EV):Option EV:=cond ag (cond (Zqc n cs.length) (some (.agg (cs.take n))) none) (match cs with | c::_=>some c | []=>none)
def partE (off n:Nat) (ag:Bool) (cs:List EV):Option EV:=cond ag (cond (Zqc (off+n) cs.length) (some (.agg ((cs.drop off).take n))) none) (match cs.drop off with | c::_=>some c | []=>none)
def fillE (pl:Nat→Option (Nat × Nat)) (cs:List EV):List (Nat × EV)→Option (List EV)
 | []=>some cs
 | (i,x)::rest =>
   match pl i with
   | none=>none
   | some (off,size)=>cond (cond (ZpX x.cells.length size) (Zqc (off+size) cs.length) false) (fillE pl (setAt cs off x.cells) rest) none
def RVP (σ:Sg):List (Nat × EV)→List (Nat × VV)→Prop
 | [],xs=>xs=[]
 | (i,v)::vs,xs=>∃ x xs',xs=(i,x)::xs'∧RV σ v x∧RVP σ vs xs'
section
variable {P:Program} {σ:Sg} {H:AH}
theorem Zcl {n:Nat} {ag:Bool} {cs:List EV} {ys:List VV} {v:EV} (hl:RVL σ cs ys) (h:ldE n ag cs=some v):∃ x,ldV n ag ys=some x∧RV σ v x:=by
 cases ag with
 | true =>
   simp only [ldE,cond_true] at h;cases hb:Zqc n cs.length with
   | false=>simp [hb] at h
   | true =>
     simp only [hb,cond_true,Option.some.injEq] at h;subst h
     have:n≤ys.length:=by rw [hl.length]; exact Zqd hb
     exact ⟨.agg (ys.take n),by simp [ldV,this],_,rfl,hl.take n⟩
 | false =>
   simp only [ldE,cond_false] at h;cases cs with
   | nil=>simp at h
   | cons c cs =>
     simp only [Option.some.injEq] at h;subst h;obtain ⟨y,ys',rfl,h1,_⟩:=hl;exact ⟨y,by simp [ldV],h1⟩
theorem ZgS {off n:Nat} {ag:Bool} {cs:List EV} {ys:List VV} {v:EV} (hl:RVL σ cs ys) (h:partE off n ag cs=some v):∃ x,partV off n ag ys=some x∧RV σ v x:=by
 cases ag with
 | true =>
   simp only [partE,cond_true] at h;cases hb:Zqc (off+n) cs.length with
   | false=>simp [hb] at h
   | true =>
     simp only [hb,cond_true,Option.some.injEq] at h;subst h
     have:off+n≤ys.length:=by rw [hl.length]; exact Zqd hb
     exact ⟨.agg ((ys.drop off).take n),by simp [partV,this],_,rfl,(hl.drop off).take n⟩
 | false =>
   simp only [partE,cond_false] at h;have hd:=hl.drop off;cases hc:cs.drop off with
   | nil=>simp [hc] at h
   | cons c cs' =>
     simp only [hc,Option.some.injEq] at h;subst h;rw [hc] at hd;obtain ⟨y,ys',e,h1,_⟩:=hd;refine ⟨y,?_,h1⟩
     have:ys[off]?=some y:=by
      have:=List.getElem?_drop (xs:=ys) (i:=off) (j:=0)
      rw [e] at this;simpa using this.symm
     simp [partV,this]
theorem Zdr {pl:Nat→Option (Nat × Nat)}:∀ {ps:List (Nat × EV)} {us:List (Nat × VV)} {cs ds:List EV} {ys:List VV},RVP σ ps us→RVL σ cs ys→fillE pl cs ps=some ds→∃ zs,fillV pl ys us=some zs∧RVL σ ds zs
 | [],us,cs,ds,ys,hp,hl,h=>by
   simp only [RVP] at hp;subst hp;simp only [fillE,Option.some.injEq] at h;subst h;exact ⟨ys,rfl,hl⟩
 | (i,v)::ps,us,cs,ds,ys,hp,hl,h=>by
   obtain ⟨x,us',rfl,h1,h2⟩:=hp;simp only [fillE] at h;cases hpl:pl i with
   | none=>simp [hpl] at h
   | some q =>
     obtain ⟨off,size⟩:=q;simp only [hpl] at h;cases hb1:ZpX v.cells.length size with
     | false=>simp [hb1] at h
     | true =>
       cases hb2:Zqc (off+size) cs.length with
       | false=>simp [hb1,hb2] at h
       | true =>
         simp only [hb1,hb2,cond_true] at h;obtain ⟨zs,g1,g2⟩:=Zdr h2 (hl.setAt off h1.cells) h;refine ⟨zs,?_,g2⟩;have e1:x.cells.length=size:=by rw [h1.cells.length]; exact Zp0 hb1
         have e2:off+size≤ys.length:=by rw [hl.length]; exact Zqd hb2
         simp only [fillV,hpl,e1,e2,and_self,if_true];exact g1
theorem RVP.map {ev:Operand→EV} {f:Operand→VV} (h:∀ o,RV σ (ev o) (f o)):∀ (l:List (Nat × Operand)),RVP σ (l.map fun p=>(p.1,ev p.2)) (l.map fun p=>(p.1,f p.2))
 | []=>rfl
 | p::l=>⟨f p.2,_,rfl,h p.2,RVP.map h l⟩
theorem RVL.map {ev:Operand→EV} {f:Operand→VV} (h:∀ o,RV σ (ev o) (f o)):∀ (l:List Operand),RVL σ (l.map ev) (l.map f)
 | []=>rfl
 | p::l=>⟨f p,_,rfl,h p,RVL.map h l⟩
end
end Go.PV
end
section
open Nat renaming ble→Zqc,beq→ZpX,le_of_ble_eq_true→Zqd,eq_of_beq_eq_true→Zp0
namespace Go.PV
def undK (P:Program) (t:TypeId):Nat :=
 match P.underlying t with
 | some .bool=>1
 | some (.slice _)=>2
 | some (.pointer _)=>3
 | some (.interface _)=>4
 | some (.map _ _)=>5
 | some (.func _ _ _)=>6
 | some .string=>7
 | some (.int _)=>8
 | some _=>9
 | none=>0
def eqK (x y:EV):Option (Nat × Bool) :=
 match y with
 | .lit (.bool q)=>(match x with | .lit (.bool p)=>some (1,cond p q (!q)) | _=>none)
 | .lit (.slice none 0 0)=>(match x with | .isl _ n _=>cond (Zqc 1 n) (some (2,false)) none | .sl _ _ _ _ _=>some (2,false) | .es _ _ _ _ _=>some (2,false) | .lit (.slice none 0 0)=>some (2,true) | _=>none)
 | .lit (.pointer none)=>(match x with | .ptr _ _=>some (3,false) | .iptr _=>some (3,false) | .lit (.pointer none)=>some (3,true) | _=>none)
 | .lit .nilIface=>(match x with | .iface _ _=>some (4,false) | .lit .nilIface=>some (4,true) | _=>none)
 | .lit (.map none)=>(match x with | .map _=>some (5,false) | .lit (.map none)=>some (5,true) | _=>none)
 | .lit .nilFunc=>(match x with | .func _ _ _=>some (6,false) | .yield _=>some (6,false) | .lit .nilFunc=>some (6,true) | .lit (.func _ _ _)=>some (6,false) | _=>none)
 | _=>none
def eqE (P:Program) (t:TypeId) (ox oy:Operand) (x y:EV):Option Bool :=
 match eqK x y with
 | some (n,b)=>cond (ZpX (undK P t) n) (cond (cond (WF ox) true (cond (WF oy) true (ZpX n 1))) (some b) none) none
 | none=>none
def binE (P:Program) (op:BinOp) (t:TypeId) (ox oy:Operand) (x y:EV):Option EV :=
 match x,y with
 | .lit (.int k a),.lit (.int k' b)=>(match binV op (.int k a) (.int k' b) with | some r=>some (.lit r) | none=>none)
 | .lit (.string a),.lit (.string b) =>
   (match op with
    | .eql=>some (.lit (.bool (beqU a.data.toList b.data.toList)))
    | .neq=>some (.lit (.bool (!(beqU a.data.toList b.data.toList))))
    | .lss=>some (.lit (.bool (Op.bytesLess a.data.toList b.data.toList)))
    | .leq=>some (.lit (.bool (Op.bytesLess a.data.toList b.data.toList || beqU a.data.toList b.data.toList)))
    | .gtr=>some (.lit (.bool (!(Op.bytesLess a.data.toList b.data.toList || beqU a.data.toList b.data.toList))))
    | .geq=>some (.lit (.bool (!(Op.bytesLess a.data.toList b.data.toList))))
    | _=>none)
 | x,y =>
   match op with
   | .eql=>(match eqE P t ox oy x y with | some b=>some (.lit (.bool b)) | none=>none)
   | .neq=>(match eqE P t ox oy x y with | some b=>some (.lit (.bool (!b))) | none=>none)
   | _=>none
section
variable {P:Program} {σ:Sg} {H:AH} {K:VE→AH→Prop}
theorem Zef (P:Program) (t:TypeId) :
 (undK P t=1→P.underlying t=some .bool)∧(undK P t=2→∃ e,P.underlying t=some (.slice e))∧(undK P t=3→∃ e,P.underlying t=some (.pointer e)) ∧
 (undK P t=4→∃ e,P.underlying t=some (.interface e))∧(undK P t=5→∃ k e,P.underlying t=some (.map k e))∧(undK P t=6→∃ a b c,P.underlying t=some (.func a b c)) ∧
 (undK P t=7→P.underlying t=some .string):=by
 unfold undK
 split<;>rename_i h<;>refine ⟨?_,?_,?_,?_,?_,?_,?_⟩<;>intro e<;>first | (exact absurd e (by decide)) | exact h | exact ⟨_,h⟩ | exact ⟨_,_,h⟩ | exact ⟨_,_,_,h⟩
theorem Zpd {t:TypeId} {x y:EV} {x' y':VV} {n:Nat} {b:Bool} (hx:RV σ x x') (hy:RV σ y y') (h:eqK x y=some (n,b)) (hn:undK P t=n) :
 eqOk P t x' y'∧(n=1→P.underlying t=some .bool)∧∀ c,eqOut P t x' y' c→c=b:=by
 have hu:=Zef P t;unfold eqK at h;split at h
 ·obtain rfl:=hy;split at h
  ·rename_i q _ p;obtain rfl:=hx;simp only [Option.some.injEq,Prod.mk.injEq] at h;obtain ⟨rfl,rfl⟩:=h;refine ⟨hu.1 hn,fun _=>hu.1 hn,fun c hc=>?_⟩;simp only [eqOut] at hc;rw [hc];cases p<;>cases q<;>rfl
  ·cases h
 ·obtain rfl:=hy;split at h
  ·rename_i ex m cs;obtain ⟨ys,rfl,_⟩:=hx;cases hb:Zqc 1 m with
   | false=>simp [hb] at h
   | true =>
     simp only [hb,cond_true,Option.some.injEq,Prod.mk.injEq] at h;obtain ⟨rfl,rfl⟩:=h
     have:=Zqd hb
     exact ⟨hu.2.1 hn,fun h=>(by cases h),fun c hc=>hc (by omega)⟩
  ·obtain ⟨p,_,_,rfl⟩:=hx;simp only [Option.some.injEq,Prod.mk.injEq] at h;obtain ⟨rfl,rfl⟩:=h;exact ⟨hu.2.1 hn,fun h=>(by cases h),fun c hc=>hc⟩
  ·obtain ⟨p,_,rfl⟩:=hx;simp only [Option.some.injEq,Prod.mk.injEq] at h;obtain ⟨rfl,rfl⟩:=h;exact ⟨hu.2.1 hn,fun h=>(by cases h),fun c hc=>hc⟩
  ·obtain rfl:=hx;simp only [Option.some.injEq,Prod.mk.injEq] at h;obtain ⟨rfl,rfl⟩:=h;exact ⟨hu.2.1 hn,fun h=>(by cases h),fun c hc=>hc⟩
  ·cases h
 ·obtain rfl:=hy;split at h
  ·obtain ⟨p,_,rfl⟩:=hx;simp only [Option.some.injEq,Prod.mk.injEq] at h;obtain ⟨rfl,rfl⟩:=h;exact ⟨hu.2.2.1 hn,fun h=>(by cases h),fun c hc=>hc⟩
  ·obtain ⟨ys,rfl,_⟩:=hx;simp only [Option.some.injEq,Prod.mk.injEq] at h;obtain ⟨rfl,rfl⟩:=h;exact ⟨hu.2.2.1 hn,fun h=>(by cases h),fun c hc=>hc⟩
  ·obtain rfl:=hx;simp only [Option.some.injEq,Prod.mk.injEq] at h;obtain ⟨rfl,rfl⟩:=h;exact ⟨hu.2.2.1 hn,fun h=>(by cases h),fun c hc=>hc⟩
  ·cases h
 ·obtain rfl:=hy;split at h
  ·obtain ⟨y,rfl,_⟩:=hx;simp only [Option.some.injEq,Prod.mk.injEq] at h;obtain ⟨rfl,rfl⟩:=h;exact ⟨hu.2.2.2.1 hn,fun h=>(by cases h),fun c hc=>hc⟩
  ·obtain rfl:=hx;simp only [Option.some.injEq,Prod.mk.injEq] at h;obtain ⟨rfl,rfl⟩:=h;exact ⟨hu.2.2.2.1 hn,fun h=>(by cases h),fun c hc=>hc⟩
  ·cases h
 ·obtain rfl:=hy;split at h
  ·obtain ⟨p,_,rfl⟩:=hx;simp only [Option.some.injEq,Prod.mk.injEq] at h;obtain ⟨rfl,rfl⟩:=h;exact ⟨hu.2.2.2.2.1 hn,fun h=>(by cases h),fun c hc=>hc⟩
  ·obtain rfl:=hx;simp only [Option.some.injEq,Prod.mk.injEq] at h;obtain ⟨rfl,rfl⟩:=h;exact ⟨hu.2.2.2.2.1 hn,fun h=>(by cases h),fun c hc=>hc⟩
  ·cases h
 ·obtain rfl:=hy;split at h
  ·obtain ⟨asg,bs,rfl,_⟩:=hx;simp only [Option.some.injEq,Prod.mk.injEq] at h;obtain ⟨rfl,rfl⟩:=h;exact ⟨hu.2.2.2.2.2.1 hn,fun h=>(by cases h),fun c hc=>hc⟩
  ·obtain ⟨p,_,rfl⟩:=hx;simp only [Option.some.injEq,Prod.mk.injEq] at h;obtain ⟨rfl,rfl⟩:=h;exact ⟨hu.2.2.2.2.2.1 hn,fun h=>(by cases h),fun c hc=>hc⟩
  ·obtain rfl:=hx;simp only [Option.some.injEq,Prod.mk.injEq] at h;obtain ⟨rfl,rfl⟩:=h;exact ⟨hu.2.2.2.2.2.1 hn,fun h=>(by cases h),fun c hc=>hc⟩
  ·obtain rfl:=hx;simp only [Option.some.injEq,Prod.mk.injEq] at h;obtain ⟨rfl,rfl⟩:=h;exact ⟨hu.2.2.2.2.2.1 hn,fun h=>(by cases h),fun c hc=>hc⟩
  ·cases h
 ·cases h
theorem ZeR {t:TypeId} {x y:VV} (h:eqOk P t x y):Yw y=none:=by
 unfold eqOk at h;split at h<;>first | rfl | exact h.elim
theorem Zpe {t:TypeId} {ox oy:Operand} {x y:EV} {x' y':VV} {b:Bool} (hx:RV σ x x') (hy:RV σ y y') (h:eqE P t ox oy x y=some b) :
 eqOk P t x' y'∧(WF ox=true∨WF oy=true∨P.underlying t=some .bool)∧∀ c,eqOut P t x' y' c→c=b:=by
 unfold eqE at h;split at h
 ·rename_i n b' hk;cases hn:ZpX (undK P t) n with
  | false=>simp [hn] at h
  | true =>
    have hn':=Zp0 hn;simp only [hn,cond_true] at h;obtain ⟨g1,g2,g3⟩:=Zpd (P:=P) (t:=t) hx hy hk hn';cases h1:WF ox with
    | true=>simp only [h1,cond_true,Option.some.injEq] at h; subst h; exact ⟨g1,.inl rfl,g3⟩
    | false =>
      cases h2:WF oy with
      | true=>simp only [h1,h2,cond_true,cond_false,Option.some.injEq] at h; subst h; exact ⟨g1,.inr (.inl rfl),g3⟩
      | false =>
        simp only [h1,h2,cond_false] at h;cases h3:ZpX n 1 with
        | false=>simp [h3] at h
        | true=>simp only [h3,cond_true,Option.some.injEq] at h; subst h; exact ⟨g1,.inr (.inr (g2 (Zp0 h3))),g3⟩
 ·cases h
theorem strEq (a b:ByteArray):(a.data.toList == b.data.toList)=beqU a.data.toList b.data.toList:=by
 rw [Bool.eq_iff_iff,Zf6]; simp
theorem ZmP {op:BinOp} {t:TypeId} {ox oy:Operand} {x y:EV} {x' y':VV} {v:EV} (hx:RV σ x x') (hy:RV σ y y') (h:binE P op t ox oy x y=some v) (hK:∀ z,RV σ v z→K (.ret z) H):vcBin P op t ox oy x' y' H K:=by
 unfold binE at h;split at h
 ·obtain rfl:=hx; obtain rfl:=hy;split at h
  ·rename_i r hr;simp only [Option.some.injEq] at h;subst h;simp only [vcBin,hr];exact hK _ rfl
  ·cases h
 ·obtain rfl:=hx; obtain rfl:=hy;split at h
  all_goals first
   | (cases h; done)
   | (simp only [Option.some.injEq] at h; subst h; simp only [vcBin,binV,toListB,strEq]; exact hK _ rfl)
 ·rename_i n1 n2;have key:∀ b,eqE P t ox oy x y=some b→eqOk P t x' y'∧(WF ox=true∨WF oy=true∨P.underlying t=some .bool)∧(∀ c,eqOut P t x' y' c→c=b):=fun b hb=>Zpe hx hy hb
  split at h
  ·split at h
   ·rename_i b hb;obtain ⟨g1,g2,g3⟩:=key b hb;have hl:=ZeR g1;simp only [Option.some.injEq] at h;subst h;unfold vcBin;split
    ·exact g1.elim
    ·exact g1.elim
    ·dsimp only;rw [hl];split
     ·rename_i e; cases e
     ·exact ⟨g1,g2,fun c hc=>by rw [g3 c hc]; exact hK _ rfl⟩
   ·cases h
  ·split at h
   ·rename_i b hb;obtain ⟨g1,g2,g3⟩:=key b hb;have hl:=ZeR g1;simp only [Option.some.injEq] at h;subst h;unfold vcBin;split
    ·exact g1.elim
    ·exact g1.elim
    ·dsimp only;rw [hl];split
     ·rename_i e; cases e
     ·exact ⟨g1,g2,fun c hc=>by rw [g3 c hc]; exact hK _ rfl⟩
   ·cases h
  ·cases h
end
def unE (op:UnOp) (x:EV):Option EV :=
 match x with
 | .lit v=>(match unV op v with | some r=>some (.lit r) | none=>none)
 | _=>none
def convE (P:Program) (s d:TypeId) (x:EV):Option EV :=
 match x with
 | .lit (.int _ n)=>(match P.underlying s with | some _=>(match P.underlying d with | some (.int k)=>some (.lit (.int k (k.wrap n))) | _=>none) | none=>none)
 | .lit (.string b)=>(match P.underlying s with
   | some _=>(match P.underlying d with
     | some .string=>some (.lit (.string b))
     | some (.slice e)=>(match P.underlying e with
       | some (.int .u8)=>some (.isl false b.data.size (b.data.toList.map fun c=>.lit (.int .u8 (c.toNat:Int))))
       | _=>none)
     | _=>none)
   | none=>none)
 | _=>none
def nilE (x:EV):Option EV :=
 match x with
 | .iptr cs=>some (.iptr cs)
 | .ptr k o=>some (.ptr k o)
 | .lit (.func (.func f) a b)=>some (.lit (.func (.func f) a b))
 | .yield k=>some (.yield k)
 | .func f a b=>some (.func f a b)
 | _=>none
def Zfc (P:Program) (s:TypeId) (a:EV) (f:Nat):Option EV :=
 match flT P s f with
 | some (off,n,_)=>cond (ZpX n 0) none (match a with | .iptr cs=>some (.iptr (cs.drop off)) | .ptr k o=>some (.ptr k (o+off)) | _=>none)
 | none=>none
def Znz (P:Program) (s:TypeId) (x:EV) (f:Nat):Option EV :=
 match flT P s f with
 | some (off,n,ag)=>(match x with | .agg cs=>partE off n ag cs | .lit (.agg vs)=>partE off n ag (vs.toList.map .lit) | _=>none)
 | none=>none
def inB (j:Int) (n:Nat):Bool:=cond (decide (0≤j)) (decide (j<(n:Int))) false
def Zfd (P:Program) (t:TypeId) (a i:EV):Option EV :=
 match i with
 | .lit (.int _ j) =>
   (match elT P t with
    | some (_,k,_)=>(match a with
      | .isl _ n cs=>cond (inB j n) (some (.iptr (cs.drop (j.toNat * k)))) none
      | .sl q o n _ _=>cond (inB j n) (some (.ptr q (o+j.toNat * k))) none
      | _=>none)
    | none=>(match arT P t with
      | some (n,_,k)=>(match a with
        | .iptr cs=>cond (inB j n) (some (.iptr (cs.drop (j.toNat * k)))) none
        | .ptr q o=>cond (inB j n) (some (.ptr q (o+j.toNat * k))) none
        | _=>none)
      | none=>none))
 | _=>none
def loadE (P:Program) (get:Nat→Option EB) (t:TypeId) (a:EV):Option EV :=
 match ldT P t with
 | some (n,ag)=>(match a with
   | .iptr cs=>ldE n ag cs
   | .ptr k o=>(match get k with
     | some (.cells _ cs)=>ldE n ag (cs.drop o)
     | some (.grown _ _ cs)=>ldE n ag (cs.drop o)
     | _=>none)
   | _=>none)
 | none=>none
section
variable {P:Program} {σ:Sg} {H:AH} {K:VE→AH→Prop}
theorem Zpf {op:UnOp} {x:EV} {x':VV} {v:EV} (hx:RV σ x x') (h:unE op x=some v) (hK:∀ z,RV σ v z→K (.ret z) H):vcUn op x' H K:=by
 unfold unE at h;split at h
 ·obtain rfl:=hx;split at h
  ·rename_i r hr;simp only [Option.some.injEq] at h;subst h;simp only [vcUn,hr];exact hK _ rfl
  ·cases h
 ·cases h
theorem Zlp {s d:TypeId} {x:EV} {x':VV} {v:EV} (hx:RV σ x x') (h:convE P s d x=some v) (hK:∀ z,RV σ v z→K (.ret z) H):Za5 P s d x' H K:=by
 unfold convE at h;split at h
 ·obtain rfl:=hx;split at h
  ·rename_i s' h1;split at h
   ·rename_i k h2;simp only [Option.some.injEq] at h;subst h;exact ⟨k,s',h1,h2,hK _ rfl⟩
   ·cases h
  ·cases h
 ·rename_i b;obtain rfl:=hx;split at h
  ·rename_i s' h1;split at h
   ·rename_i h2;simp only [Option.some.injEq] at h;subst h;simp only [Za5,h2];exact ⟨s',h1,hK _ rfl⟩
   ·rename_i e h2;split at h
    ·rename_i h4;simp only [Option.some.injEq] at h;subst h;simp only [Za5,h2];refine ⟨s',h1,h4,hK _ ⟨_,rfl,?_⟩⟩
     have:=RVL.lits (σ:=σ) (b.data.toList.map fun c=>Value.int .u8 (c.toNat:Int))
     simpa [Function.comp_def] using this
    ·cases h
   ·cases h
  ·cases h
 ·cases h
theorem ZmQ {x:EV} {x':VV} {v:EV} (hx:RV σ x x') (h:nilE x=some v) (hK:∀ z,RV σ v z→K (.ret z) H):vcNil x' H K:=by
 unfold nilE at h;split at h<;>first | (cases h; done) | skip
 ·simp only [Option.some.injEq] at h; subst h;have h2:=hx;obtain ⟨ys,rfl,_⟩:=hx;exact hK _ h2
 ·simp only [Option.some.injEq] at h; subst h;have h2:=hx;obtain ⟨p,_,rfl⟩:=hx;exact hK _ h2
 ·simp only [Option.some.injEq] at h; subst h;obtain rfl:=hx;exact hK _ rfl
 ·simp only [Option.some.injEq] at h; subst h;have h2:=hx;obtain ⟨p,_,rfl⟩:=hx;exact hK _ h2
 ·simp only [Option.some.injEq] at h; subst h;have h2:=hx;obtain ⟨asg,bs,rfl,_⟩:=hx;exact hK _ h2
theorem Zgk {s:TypeId} {f:Nat} {a:EV} {a':VV} {v:EV} (ha:RV σ a a') (h:Zfc P s a f=some v) (hK:∀ z,RV σ v z→K (.ret z) H):Yz P s a' f H K:=by
 unfold Zfc at h;split at h
 ·rename_i off n ag hf;cases hb:ZpX n 0 with
  | true=>simp [hb] at h
  | false =>
    have hn:n ≠ 0:=fun e=>by rw [e] at hb; cases hb
    simp only [hb,cond_false] at h;split at h
    ·simp only [Option.some.injEq] at h; subst h;obtain ⟨ys,rfl,hl⟩:=ha;simp only [Yz,hf];exact ⟨hn,hK _ ⟨_,rfl,hl.drop off⟩⟩
    ·simp only [Option.some.injEq] at h; subst h;obtain ⟨p,hp,rfl⟩:=ha;simp only [Yz,hf,ptrV];exact ⟨hn,hK _ ⟨p,hp,rfl⟩⟩
    ·cases h
 ·cases h
theorem Zkd {s:TypeId} {f:Nat} {a:EV} {a':VV} {v:EV} (ha:RV σ a a') (h:Znz P s a f=some v) (hK:∀ z,RV σ v z→K (.ret z) H):ZaS P s a' f H K:=by
 unfold Znz at h;split at h
 ·rename_i off n ag hf;split at h
  ·obtain ⟨ys,rfl,hl⟩:=ha;obtain ⟨x,h1,h2⟩:=ZgS hl h;simp only [ZaS,hf,h1];exact hK _ h2
  ·rename_i vs;obtain rfl:=ha;obtain ⟨x,h1,h2⟩:=ZgS (RVL.lits (σ:=σ) vs.toList) h;simp only [ZaS,hf,h1];exact hK _ h2
  ·cases h
 ·cases h
theorem Zf8 {j:Int} {n:Nat} (h:inB j n=true):0≤j∧j<(n:Int):=by
 unfold inB at h;by_cases h1:0≤j
 ·simp only [h1,decide_true,cond_true,decide_eq_true_eq] at h; exact ⟨h1,h⟩
 ·simp [h1] at h
theorem Zgl {t:TypeId} {a i:EV} {a' i':VV} {v:EV} (ha:RV σ a a') (hi:RV σ i i') (h:Zfd P t a i=some v) (hK:∀ z,RV σ v z→K (.ret z) H):Yp P t a' i' H K:=by
 unfold Zfd at h;split at h
 ·rename_i kk j;obtain rfl:=hi;split at h
  ·rename_i e k b hel;split at h
   ·rename_i ex n cs;obtain ⟨ys,rfl,hl⟩:=ha;cases hb:inB j n with
    | false=>simp [hb] at h
    | true =>
      simp only [hb,cond_true,Option.some.injEq] at h;subst h;simp only [Yp,hel];exact ⟨Zf8 hb,hK _ ⟨_,rfl,hl.drop _⟩⟩
   ·rename_i q o n c d;obtain ⟨p,hp,_,rfl⟩:=ha;cases hb:inB j n with
    | false=>simp [hb] at h
    | true =>
      simp only [hb,cond_true,Option.some.injEq] at h;subst h;simp only [Yp,hel];exact ⟨Zf8 hb,hK _ ⟨p,hp,rfl⟩⟩
   ·cases h
  ·rename_i hel;split at h
   ·rename_i n e k har;split at h
    ·obtain ⟨ys,rfl,hl⟩:=ha;cases hb:inB j n with
     | false=>simp [hb] at h
     | true =>
       simp only [hb,cond_true,Option.some.injEq] at h;subst h;simp only [Yp,hel,har];exact ⟨Zf8 hb,hK _ ⟨_,rfl,hl.drop _⟩⟩
    ·obtain ⟨p,hp,rfl⟩:=ha;cases hb:inB j n with
     | false=>simp [hb] at h
     | true =>
       simp only [hb,cond_true,Option.some.injEq] at h;subst h;simp only [Yp,hel,har,ptrV];exact ⟨Zf8 hb,hK _ ⟨p,hp,rfl⟩⟩
    ·cases h
   ·cases h
 ·cases h
theorem Zlq {get:Nat→Option EB} {t:TypeId} {a:EV} {a':VV} {v:EV} (hg:∀ k b,get k=some b→RBl P σ k b H) (ha:RV σ a a') (h:loadE P get t a=some v) (hK:∀ z,RV σ v z→K (.ret z) H):Wo P t a' H K:=by
 unfold loadE at h;split at h
 ·rename_i n ag hl;split at h
  ·obtain ⟨ys,rfl,hc⟩:=ha;obtain ⟨x,h1,h2⟩:=Zcl hc h;simp only [Wo,hl,h1];exact hK _ h2
  ·rename_i k o;obtain ⟨p,hp,rfl⟩:=ha;split at h
   ·rename_i e cs hb;rcases hg k _ hb with hd | ⟨q,B,g1,g2,g3⟩
    ·cases hd
    ·rw [hp] at g1; cases g1;obtain ⟨ys,rfl,hc⟩:=g3;obtain ⟨x,h1,h2⟩:=Zcl (hc.drop o) h;simp only [Wo,hl,ptrV,g2,h1];exact hK _ h2
   ·rename_i e s cs hb;rcases hg k _ hb with hd | ⟨q,B,g1,g2,g3⟩
    ·cases hd
    ·rw [hp] at g1; cases g1;obtain ⟨ys,sp,rfl,hc,_⟩:=g3;obtain ⟨x,h1,h2⟩:=Zcl (hc.drop o) h;simp only [Wo,hl,ptrV,g2,h1];exact hK _ h2
   ·cases h
  ·cases h
 ·cases h
end
end Go.PV
end
section
open List renaming replicate→ZqH,map_cons→Zp3,map_nil→Zqa
open Nat renaming ble→Zqc,beq→ZpX,le_of_ble_eq_true→Zqd,eq_of_beq_eq_true→Zp0,le_refl→ZpY
namespace Go.PV
def ZnA (P:Program) (t:TypeId) (ps:List (Nat × EV)):Option EV :=
 match stT P t with
 | some (zs,pl)=>(match fillE (fun i=>pl[i]?) (zs.map .lit) ps with | some cs=>some (.agg cs) | none=>none)
 | none=>none
def Zds (P:Program) (t:TypeId) (len:Nat) (ps:List (Nat × EV)):Option EV :=
 match elT P t with
 | some (e,k,_)=>(match zeroT P e with
   | some zs=>cond (cond (Zqc (len * k) 16777216) (ZpX zs.length k) false)
      (match fillE (fun i=>some (i * k,k)) ((ZqH len zs).flatten.map .lit) ps with | some cs=>some (.isl true len cs) | none=>none) none
   | none=>none)
 | none=>none
def idxE (x:Option EV) (d:Nat):Option Nat :=
 match x with
 | none=>some d
 | some (.lit (.int _ j))=>cond (decide (0≤j)) (some j.toNat) none
 | _=>none
def ZnB (P:Program) (t:TypeId) (x:EV) (lo hi mx:Option EV):Option EV :=
 match x with
 | .isl ex n cs =>
   (match elT P t,idxE lo 0,idxE hi n,idxE mx n with
    | some (_,k,_),some l,some h,some m=>cond (cond (cond mx.isSome hi.isSome true) (cond (Zqc l h) (cond (Zqc h m) (Zqc m n) false) false) false)
       (some (.isl (cond mx.isSome (ZpX m h) (cond ex (ZpX h n) false)) (h-l) (cs.drop (l * k)))) none
    | _,_,_,_=>none)
 | .lit (.slice none 0 0) =>
   (match elT P t,idxE lo 0,idxE hi 0,idxE mx 0 with
    | some (_,k,_),some l,some h,some m=>cond (cond (cond mx.isSome hi.isSome true) (cond (Zqc l h) (cond (Zqc h m) (Zqc m 0) false) false) false) (some (.lit (.slice none 0 0))) none
    | _,_,_,_=>none)
 | .sl q o n c d =>
   (match elT P t,idxE lo 0,idxE hi n with
    | some (_,k,_),some l,some h=>cond (cond (Zqc l h) (Zqc h n) false)
       (match mx with
        | some m=>(match idxE (some m) 0 with
          | some m=>cond (cond hi.isSome (cond (Zqc h m) (Zqc m n) false) false) (some (.sl q (cond (ZpX m l) o (o+l * k)) (h-l) (some (m-l)) 0)) none
          | none=>none)
        | none=>(match c with
          | some c=>some (.sl q (cond (ZpX (c-d) l) o (o+l * k)) (h-l) (some (c-d-l)) 0)
          | none=>cond (ZpX l 0) (some (.sl q o h none d)) (cond (ZpX l h) (some (.es q o d l k)) (some (.sl q (o+l * k) (h-l) none (d+l)))))) none
    | _,_,_=>none)
 | .lit (.string s) =>
   (match mx,idxE lo 0,idxE hi s.size with
    | none,some l,some h=>cond (cond (ZpX (undK P t) 7) (cond (Zqc l h) (Zqc h s.size) false) false) (some (.lit (.string (s.extract l h)))) none
    | _,_,_=>none)
 | _=>none
def lenE (P:Program) (t:TypeId) (x:EV):Option EV :=
 match x with
 | .isl _ n _=>(match elT P t with | some _=>some (.lit (.int .i64 (n:Int))) | none=>none)
 | .sl _ _ n _ _=>(match elT P t with | some _=>some (.lit (.int .i64 (n:Int))) | none=>none)
 | .es _ _ _ _ _=>(match elT P t with | some _=>some (.lit (.int .i64 0)) | none=>none)
 | .lit (.slice _ n _)=>(match elT P t with | some _=>some (.lit (.int .i64 (n:Int))) | none=>none)
 | .lit (.string s)=>cond (ZpX (undK P t) 7) (some (.lit (.int .i64 (s.data.size:Int)))) none
 | _=>none
def Ziy (x:EV) (i:Nat):Option EV :=
 match x with
 | .tuple cs=>(match cs.drop i with | c::_=>some c | []=>none)
 | _=>none
def okE (ok:Bool) (x:EV) (b:Bool):EV:=cond ok (.tuple [x,.lit (.bool b)]) x
def ZkC (P:Program) (x:EV) (t:TypeId) (ok:Bool):Option EV :=
 cond (Jx P t) (match x with
  | .iface u y=>cond (ZpX u t) (some (okE ok y true)) (cond ok (match zeroV P t with | some z=>some (okE ok (.lit z) false) | none=>none) none)
  | .lit .nilIface=>cond ok (match zeroV P t with | some z=>some (okE ok (.lit z) false) | none=>none) none
  | _=>none) none
def ZnC (P:Program) (t:TypeId) (x i:EV):Option EV :=
 match x,i with
 | .lit (.string s),.lit (.int _ j)=>cond (cond (ZpX (undK P t) 7) (decide (0≤j)) false) (match s.data.toList[j.toNat]? with | some b=>some (.lit (.int .u8 (b.toNat:Int))) | none=>none) none
 | _,_=>none
section
variable {P:Program} {σ:Sg} {H:AH} {K:VE→AH→Prop}
theorem Zke {t:TypeId} {ps:List (Nat × EV)} {us:List (Nat × VV)} {v:EV} (hp:RVP σ ps us) (h:ZnA P t ps=some v) (hK:∀ z,RV σ v z→K (.ret z) H):ZM P t us H K:=by
 unfold ZnA at h;split at h
 ·rename_i zs pl hst;split at h
  ·rename_i cs hf;simp only [Option.some.injEq] at h; subst h;obtain ⟨ys,g1,g2⟩:=Zdr hp (RVL.lits zs) hf;simp only [ZM,hst,g1];exact hK _ ⟨ys,rfl,g2⟩
  ·cases h
 ·cases h
theorem Zfh {t:TypeId} {len:Nat} {ps:List (Nat × EV)} {us:List (Nat × VV)} {v:EV} (hp:RVP σ ps us) (h:Zds P t len ps=some v) (hK:∀ z,RV σ v z→K (.ret z) H):ZH P t len us H K:=by
 unfold Zds at h;split at h
 ·rename_i e k b hel;split at h
  ·rename_i zs hz;cases h1:Zqc (len * k) 16777216 with
   | false=>simp [h1] at h
   | true =>
     cases h2:ZpX zs.length k with
     | false=>simp [h1,h2] at h
     | true =>
       simp only [h1,h2,cond_true] at h;split at h
       ·rename_i cs hf;simp only [Option.some.injEq] at h; subst h;obtain ⟨ys,g1,g2⟩:=Zdr hp (RVL.lits _) hf;simp only [ZH,hel,hz,g1];exact ⟨⟨Zqd h1,Zp0 h2⟩,hK _ ⟨ys,rfl,g2⟩⟩
       ·cases h
  ·cases h
 ·cases h
def RVO (σ:Sg):Option EV→Option VV→Prop
 | none,x=>x=none
 | some v,x=>∃ y,x=some y∧RV σ v y
theorem RVO.map {ev:Operand→EV} {f:Operand→VV} (h:∀ o,RV σ (ev o) (f o)) (o:Option Operand):RVO σ (o.map ev) (o.map f):=by
 cases o with
 | none=>rfl
 | some o=>exact ⟨_,rfl,h o⟩
theorem Wn {x:Option EV} {y:Option VV} {d n:Nat} (hx:RVO σ x y) (h:idxE x d=some n):idxOk y∧idxV y d=n∧(y=none↔x=none):=by
 unfold idxE at h;split at h
 ·simp only [Option.some.injEq] at h; subst h;obtain rfl:=hx;exact ⟨trivial,rfl,by simp⟩
 ·rename_i k j;obtain ⟨y,rfl,hy⟩:=hx;obtain rfl:=hy;by_cases hj:0≤j
  ·simp only [hj,decide_true,cond_true,Option.some.injEq] at h;exact ⟨hj,h,by simp⟩
  ·simp [hj] at h
 ·cases h
theorem Zpg (m:EV) (d d':Nat):idxE (some m) d=idxE (some m) d':=by
 cases m with
 | lit v=>cases v<;>rfl
 | _=>rfl
theorem natBeq (a b:Nat):ZpX a b=(a == b):=by
 cases h:ZpX a b with
 | true=>simp [Zp0 h]
 | false =>
   have:a ≠ b:=fun e=>by rw [e,Nat.beq_refl] at h; cases h
   simp [this]
theorem cond3 {a b:Bool} (h:cond a b false=true):a=true∧b=true:=by cases a<;>simp_all
theorem condS {α:Type} {c:Bool} {x:Option α} {v:α} (h:cond c x none=some v):c=true∧x=some v:=by cases c<;>simp_all
theorem RVO.some {x:Option EV} {y:Option VV} (hx:RVO σ x y):x.isSome=y.isSome:=by
 cases x with
 | none=>obtain rfl:=hx; rfl
 | some v=>obtain ⟨y,rfl,_⟩:=hx; rfl
theorem Zkf {t:TypeId} {x:EV} {x':VV} {lo hi mx:Option EV} {lo' hi' mx':Option VV} {v:EV} (hx:RV σ x x') (h1:RVO σ lo lo') (h2:RVO σ hi hi') (h3:RVO σ mx mx')
 (h:ZnB P t x lo hi mx=some v) (hK:∀ z,RV σ v z→K (.ret z) H):YC P t x' lo' hi' mx' H K:=by
 have hmh:∀ {b:Bool},cond mx.isSome hi.isSome true=true→(mx' ≠ none→hi' ≠ none):=by
  intro _ hc hm hh;rw [h3.some,h2.some] at hc;subst hh;cases mx' with
  | none=>exact hm rfl
  | some m=>simp at hc
 unfold ZnB at h;split at h
 ·rename_i ex n cs;obtain ⟨ys,rfl,hl⟩:=hx;split at h
  ·rename_i e k b l hh m hel e1 e2 e3;obtain ⟨a1,a2,a3⟩:=Wn h1 e1;obtain ⟨b1,b2,b3⟩:=Wn h2 e2;obtain ⟨c1,c2,c3⟩:=Wn h3 e3;have hq:=condS h;clear h;obtain ⟨hc,h⟩:=hq;obtain ⟨hc1,hc⟩:=cond3 hc;obtain ⟨hc2,hc⟩:=cond3 hc;obtain ⟨hc3,hc4⟩:=cond3 hc;simp only [Option.some.injEq] at h; subst h;simp only [YC,hel,a2,b2,c2];refine ⟨⟨a1,b1,c1,hmh (b:=true) hc1,by rw [a2,b2]; exact Zqd hc2,by rw [b2,c2]; exact Zqd hc3,by rw [c2]; exact Zqd hc4⟩,hK _ ⟨_,?_,hl.drop _⟩⟩;have hb:∀ a b:Nat,ZpX a b=(a == b):=natBeq;cases mx' with
   | none =>
     have:mx.isSome=false:=by rw [h3.some]; rfl
     simp only [this,cond_false];cases ex<;>simp [hb]
   | some m' =>
     have:mx.isSome=true:=by rw [h3.some]; rfl
     simp only [this,cond_true,hb]
  ·cases h
 ·obtain rfl:=hx;split at h
  ·rename_i e k b l hh m hel e1 e2 e3;obtain ⟨a1,a2,a3⟩:=Wn h1 e1;obtain ⟨b1,b2,b3⟩:=Wn h2 e2;obtain ⟨c1,c2,c3⟩:=Wn h3 e3;have hq:=condS h;clear h;obtain ⟨hc,h⟩:=hq;obtain ⟨hc1,hc⟩:=cond3 hc;obtain ⟨hc2,hc⟩:=cond3 hc;obtain ⟨hc3,hc4⟩:=cond3 hc;simp only [Option.some.injEq] at h; subst h;simp only [YC,hel];exact ⟨⟨a1,b1,c1,hmh (b:=true) hc1,by rw [a2,b2]; exact Zqd hc2,by rw [b2,c2]; exact Zqd hc3,by rw [c2]; exact Zqd hc4⟩,hK _ rfl⟩
  ·cases h
 ·rename_i q o n c d;obtain ⟨p,hp,hn,rfl⟩:=hx;split at h
  ·rename_i e k b l hh hel e1 e2;obtain ⟨a1,a2,a3⟩:=Wn h1 e1;obtain ⟨b1,b2,b3⟩:=Wn h2 e2;have hq:=condS h;clear h;obtain ⟨hc,h⟩:=hq;obtain ⟨hc2,hc3⟩:=cond3 hc;have hlh:=Zqd hc2;have hhn:=Zqd hc3;simp only [YC,hel,a2,b2];split at h
   ·rename_i m;split at h
    ·rename_i m' e3;have e3':idxE (some m) (c.getD p.c-d)=some m':=(Zpg m _ 0).trans e3;obtain ⟨c1,c2,c3⟩:=Wn h3 e3';have hq:=condS h;clear h;obtain ⟨hc,h⟩:=hq;obtain ⟨hc4,hc⟩:=cond3 hc;obtain ⟨hc5,hc6⟩:=cond3 hc;have hhm:=Zqd hc5;have hmn:=Zqd hc6;simp only [Option.some.injEq] at h; subst h;rw [c2];refine ⟨⟨a1,b1,c1,fun _=>?_,by rw [a2,b2]; exact hlh,by rw [b2,c2]; exact hhm,by rw [c2]; omega⟩,hK _ ⟨p,hp,?_,?_⟩⟩
     ·rw [h2.some] at hc4;intro e; rw [e] at hc4; cases hc4
     ·simp; omega
     ·simp only [Option.getD_some,Nat.sub_zero]
      have:(if m'=l then o else o+l * k)=cond (ZpX m' l) o (o+l * k):=by
       cases hb:ZpX m' l with
       | true=>rw [if_pos (Zp0 hb)]; rfl
       | false=>rw [if_neg (fun e=>by rw [e,Nat.beq_refl] at hb; cases hb)]; rfl
      rw [this]
    ·cases h
   ·obtain rfl:=h3;have sok:Xj lo' hi' none n (c.getD p.c-d):=⟨a1,b1,trivial,fun h=>absurd rfl h,by rw [a2,b2]; exact hlh,by rw [b2]; show hh≤c.getD p.c-d; omega,ZpY _⟩
    have hbq:∀ a b:Nat,∀ u w:Nat,(if a=b then u else w)=cond (ZpX a b) u w:=by
     intro a b u w;cases hb:ZpX a b with
     | true=>rw [if_pos (Zp0 hb)]; rfl
     | false=>rw [if_neg (fun e=>by rw [e,Nat.beq_refl] at hb; cases hb)]; rfl
    refine ⟨sok,?_⟩;show K (.ret (.lit (.slice (some ⟨p.r,if (c.getD p.c-d)=l then o else o+l * k,none⟩) (hh-l) ((c.getD p.c-d)-l)))) H;split at h
    ·rename_i c;simp only [Option.some.injEq] at h; subst h;simp only [Option.getD_some] at hn ⊢;refine hK _ ⟨p,hp,?_,?_⟩
     ·simp; omega
     ·simp only [Option.getD_some,Nat.sub_zero,hbq]
    ·simp only [Option.getD_none] at hn ⊢;cases hl0:ZpX l 0 with
     | true =>
       have:=Zp0 hl0
       subst this;simp only [hl0,cond_true,Option.some.injEq] at h; subst h;refine hK _ ⟨p,hp,?_,?_⟩
       ·simp only [Option.getD_none]; omega
       ·simp
     | false =>
       simp only [hl0,cond_false] at h;cases hlh':ZpX l hh with
       | true =>
         have:=Zp0 hlh'
         subst this;simp only [hlh',cond_true,Option.some.injEq] at h; subst h;refine hK _ ⟨p,hp,?_⟩;rw [Nat.sub_self]
       | false =>
         have hne:l ≠ hh:=fun e=>by rw [e,Nat.beq_refl] at hlh'; cases hlh'
         simp only [hlh',cond_false,Option.some.injEq] at h; subst h;refine hK _ ⟨p,hp,?_,?_⟩
         ·simp only [Option.getD_none]; omega
         ·rw [if_neg (by omega)];simp only [Option.getD_none,Nat.sub_sub]
  ·cases h
 ·rename_i s;obtain rfl:=hx;split at h
  ·rename_i l hh e1 e2;obtain rfl:=h3;obtain ⟨a1,a2,a3⟩:=Wn h1 e1;obtain ⟨b1,b2,b3⟩:=Wn h2 e2;have hq:=condS h;clear h;obtain ⟨hc,h⟩:=hq;obtain ⟨hc1,hc⟩:=cond3 hc;obtain ⟨hc2,hc3⟩:=cond3 hc;simp only [Option.some.injEq] at h; subst h;simp only [YC,a2,b2];exact ⟨(Zef P t).2.2.2.2.2.2 (Zp0 hc1),trivial,⟨a1,b1,trivial,fun h=>absurd rfl h,by rw [a2,b2]; exact Zqd hc2,by rw [b2]; exact Zqd hc3,ZpY _⟩,hK _ rfl⟩
  ·cases h
 ·cases h
theorem ZmR {t:TypeId} {x:EV} {x':VV} {v:EV} (hx:RV σ x x') (h:lenE P t x=some v) (hK:∀ z,RV σ v z→K (.ret z) H):vcLen P t x' H K:=by
 unfold lenE at h;split at h
 ·obtain ⟨ys,rfl,_⟩:=hx;split at h
  ·rename_i e; simp only [Option.some.injEq] at h; subst h; exact ⟨by rw [e]; simp,hK _ rfl⟩
  ·cases h
 ·obtain ⟨p,_,_,rfl⟩:=hx;split at h
  ·rename_i e; simp only [Option.some.injEq] at h; subst h; exact ⟨by rw [e]; simp,hK _ rfl⟩
  ·cases h
 ·obtain ⟨p,_,rfl⟩:=hx;split at h
  ·rename_i e; simp only [Option.some.injEq] at h; subst h; exact ⟨by rw [e]; simp,hK _ rfl⟩
  ·cases h
 ·obtain rfl:=hx;split at h
  ·rename_i e; simp only [Option.some.injEq] at h; subst h; exact ⟨by rw [e]; simp,hK _ rfl⟩
  ·cases h
 ·obtain rfl:=hx;have hq:=condS h;clear h;obtain ⟨hc,h⟩:=hq;simp only [Option.some.injEq] at h; subst h;exact ⟨(Zef P t).2.2.2.2.2.2 (Zp0 hc),hK _ rfl⟩
 ·cases h
theorem Zhm {x:EV} {x':VV} {i:Nat} {v:EV} (hx:RV σ x x') (h:Ziy x i=some v) (hK:∀ z,RV σ v z→K (.ret z) H):ZI x' i H K:=by
 unfold Ziy at h;split at h
 ·rename_i cs;obtain ⟨ys,rfl,hl⟩:=hx;have hd:=hl.drop i;split at h
  ·rename_i c cs' hc;simp only [Option.some.injEq] at h; subst h;rw [hc] at hd;obtain ⟨y,ys',e,hy,_⟩:=hd
   have:ys[i]?=some y:=by
    have:=List.getElem?_drop (xs:=ys) (i:=i) (j:=0)
    rw [e] at this;simpa using this.symm
   simp only [ZI,this];exact hK _ hy
  ·cases h
 ·cases h
theorem ZcB {ok:Bool} {v:EV} {x:VV} {b:Bool} (h:RV σ v x):RV σ (okE ok v b) (okV ok x b):=by
 cases ok with
 | false=>exact h
 | true=>exact ⟨_,rfl,x,_,rfl,h,_,[],rfl,rfl,rfl⟩
theorem Zi6 {x:EV} {x':VV} {t:TypeId} {ok:Bool} {v:EV} (hx:RV σ x x') (h:ZkC P x t ok=some v) (hK:∀ z,RV σ v z→K (.ret z) H):XV P x' t ok H K:=by
 unfold ZkC at h;have hq:=condS h;clear h;obtain ⟨hc,h⟩:=hq;refine ⟨hc,?_⟩;split at h
 ·rename_i u y;obtain ⟨z,rfl,hz⟩:=hx;dsimp only;cases hb:ZpX u t with
  | true =>
    simp only [hb,cond_true,Option.some.injEq] at h; subst h;rw [if_pos (Zp0 hb)];exact hK _ (ZcB hz)
  | false =>
    rw [if_neg (fun e=>by rw [e,Nat.beq_refl] at hb; cases hb)];simp only [hb,cond_false] at h;have hq:=condS h;clear h;obtain ⟨h1,h⟩:=hq;refine ⟨h1,?_⟩;split at h
    ·rename_i z' hz';simp only [Option.some.injEq] at h; subst h;simp only [hz'];exact hK _ (ZcB rfl)
    ·cases h
 ·obtain rfl:=hx;dsimp only;have hq:=condS h;clear h;obtain ⟨h1,h⟩:=hq;refine ⟨h1,?_⟩;split at h
  ·rename_i z' hz';simp only [Option.some.injEq] at h; subst h;simp only [hz'];exact hK _ (ZcB rfl)
  ·cases h
 ·cases h
theorem Zkg {t:TypeId} {x i:EV} {x' i':VV} {v:EV} (hx:RV σ x x') (hi:RV σ i i') (h:ZnC P t x i=some v) (hK:∀ z,RV σ v z→K (.ret z) H):Zbu P t x' i' H K:=by
 unfold ZnC at h;split at h
 ·obtain rfl:=hx;obtain rfl:=hi;have hq:=condS h;clear h;obtain ⟨hc,h⟩:=hq;obtain ⟨hc1,hc2⟩:=cond3 hc;split at h
  ·rename_i b hb;simp only [Option.some.injEq] at h; subst h;refine ⟨(Zef P t).2.2.2.2.2.2 (Zp0 hc1),of_decide_eq_true hc2,?_⟩;simp only [hb];exact hK _ rfl
  ·cases h
 ·cases h
end
def maxE (a b:EV):Option EV :=
 match a,b with
 | .lit (.int k a),.lit (.int _ b)=>some (.lit (.int k (cond (decide (a<b)) b a)))
 | _,_=>none
def minE (a b:EV):Option EV :=
 match a,b with
 | .lit (.int k a),.lit (.int _ b)=>some (.lit (.int k (cond (decide (b<a)) b a)))
 | _,_=>none
def two? (l:List Operand):Option (Operand × Operand):=match l with | [a,b]=>some (a,b) | _=>none
def pureE (P:Program) (ev:Operand→EV) (get:Nat→Option EB) (op:Op):Option EV :=
 match op with
 | .move x=>some (ev x)
 | .assign x=>some (ev x)
 | .pick c a b=>(match ev c with | .lit (.bool t)=>some (cond t (ev a) (ev b)) | _=>none)
 | .build t ps=>ZnA P t (ps.toList.map fun p=>(p.1,ev p.2))
 | .buildSlice t len ps=>Zds P t len (ps.toList.map fun p=>(p.1,ev p.2))
 | .load t a=>loadE P get t (ev a)
 | .nilCheck x=>nilE (ev x)
 | .binOp op t x y _=>binE P op t x y (ev x) (ev y)
 | .unOp op _ x=>unE op (ev x)
 | .convert s d x=>convE P s d (ev x)
 | .makeInterface t x=>cond (Jx P t) (some (.iface t (ev x))) none
 | .makeFunc (.func f) first cap=>some (.func f (first.toList.map ev) (cap.toList.map ev))
 | .slice t x lo hi mx=>ZnB P t (ev x) (lo.map ev) (hi.map ev) (mx.map ev)
 | .fieldAddr s x f=>Zfc P s (ev x) f
 | .field s x f=>Znz P s (ev x) f
 | .indexAddr t x i=>Zfd P t (ev x) (ev i)
 | .index t x i=>ZnC P t (ev x) (ev i)
 | .typeAssert x _ t ok=>ZkC P (ev x) t ok
 | .extract x i=>Ziy (ev x) i
 | .call { callee:=.builtin .len,args,argTypes }=>(match argTypes.toList,args.toList with | [t],[x]=>lenE P t (ev x) | _,_=>none)
 | .call { callee:=.builtin .max,args,.. }=>(match args.toList with | [x,y]=>maxE (ev x) (ev y) | _=>none)
 | .call { callee:=.builtin .min,args,.. }=>(match args.toList with | [x,y]=>minE (ev x) (ev y) | _=>none)
 | _=>none
theorem Zdt {cx:Cx} {A:AF} {σ:Sg} {H:AH} {K:VE→AH→Prop} {ev:Operand→EV} {get:Nat→Option EB} {op:Op} {v:EV} (hev:∀ o,RV σ (ev o) (A.eval o)) (hg:∀ k b,get k=some b→RBl cx.P σ k b H)
 (h:pureE cx.P ev get op=some v) (hK:∀ z,RV σ v z→K (.ret z) H):vcOp cx op A H K:=by
 unfold pureE at h;split at h
 ·simp only [Option.some.injEq] at h; subst h; exact hK _ (hev _)
 ·simp only [Option.some.injEq] at h; subst h; exact hK _ (hev _)
 ·rename_i c a b;split at h
  ·rename_i t ht;have hc:=hev c;rw [ht] at hc;have hc':A.eval c=.lit (.bool t):=hc;simp only [Option.some.injEq] at h; subst h;simp only [vcOp,hc'];cases t
   ·exact hK _ (hev b)
   ·exact hK _ (hev a)
  ·cases h
 ·exact Zke (RVP.map hev _) h hK
 ·exact Zfh (RVP.map hev _) h hK
 ·exact Zlq hg (hev _) h hK
 ·exact ZmQ (hev _) h hK
 ·exact ZmP (hev _) (hev _) h hK
 ·exact Zpf (hev _) h hK
 ·exact Zlp (hev _) h hK
 ·have hq:=condS h;clear h;obtain ⟨h1,h⟩:=hq;simp only [Option.some.injEq] at h; subst h;exact ⟨h1,hK _ ⟨_,rfl,hev _⟩⟩
 ·simp only [Option.some.injEq] at h; subst h;exact hK _ ⟨_,_,rfl,RVL.map hev _,RVL.map hev _⟩
 ·exact Zkf (hev _) (RVO.map hev _) (RVO.map hev _) (RVO.map hev _) h hK
 ·exact Zgk (hev _) h hK
 ·exact Zkd (hev _) h hK
 ·exact Zgl (hev _) (hev _) h hK
 ·exact Zkg (hev _) (hev _) h hK
 ·exact Zi6 (hev _) h hK
 ·exact Zhm (hev _) h hK
 ·rename_i args ats;split at h
  ·rename_i t x h1 h2;show YM cx.P .len ats.toList (args.toList.map A.eval) H K;rw [h1,h2];exact ZmR (hev x) h hK
  ·cases h
 ·rename_i args ats;split at h
  ·rename_i x y h2;show YM cx.P .max ats.toList (args.toList.map A.eval) H K;rw [h2,ZpB];have hx:=hev x;have hy:=hev y;unfold maxE at h;split at h
   ·rename_i k a k' b e1 e2;rw [e1] at hx;rw [e2] at hy;simp only [Option.some.injEq] at h; subst h;simp only [Zp3,Zqa,show A.eval x=_ from hx,show A.eval y=_ from hy,vcMax]
    have:(if b > a then b else a)=cond (decide (a<b)) b a:=by by_cases hab:a<b<;>simp [hab]
    rw [this];exact hK _ rfl
   ·cases h
  ·cases h
 ·rename_i args ats;split at h
  ·rename_i x y h2;show YM cx.P .min ats.toList (args.toList.map A.eval) H K;rw [h2,Zmk];have hx:=hev x;have hy:=hev y;unfold minE at h;split at h
   ·rename_i k a k' b e1 e2;rw [e1] at hx;rw [e2] at hy;simp only [Option.some.injEq] at h; subst h;simp only [Zp3,Zqa,show A.eval x=_ from hx,show A.eval y=_ from hy,vcMin]
    have:(if b<a then b else a)=cond (decide (b<a)) b a:=by by_cases hab:b<a<;>simp [hab]
    rw [this];exact hK _ rfl
   ·cases h
  ·cases h
 ·cases h
end Go.PV
end
section
open List renaming replicate→ZqH
open Nat renaming beq→ZpX,ble→Zqc,eq_of_beq_eq_true→Zp0,le_of_ble_eq_true→Zqd
namespace Go.PV
open Go.Maps
structure HR (P:Program) (σ:Sg) (h:Tr EB) (H:AH):Prop where
 blk:∀ k b,h.get k=some b→RBl P σ k b H
 inj:∀ k k' b b' p p',h.get k=some b→h.get k'=some b'→b.isDead=false→b'.isDead=false→σ k=some p→σ k'=some p'→p.r=p'.r→k=k'
 dom:∀ k,h.get k=none→σ k=none
def sgS (σ:Sg) (k:Nat) (p:Pay):Sg:=fun i=>if i=k then some p else σ i
theorem Zh4 {σ:Sg} {k:Nat} {p:Pay} (h:σ k=none):Ext σ (sgS σ k p):=fun i q hq=>by
 unfold sgS;split
 ·rename_i e; rw [e,h] at hq; cases hq
 ·exact hq
theorem JV (σ:Sg) (k:Nat) (p:Pay):sgS σ k p k=some p:=by simp [sgS]
def newB (h:Tr EB) (k:Nat) (b:EB):Option (Tr EB):=match h.get k with | none=>Tr.set 40 h k b | some _=>none
section
variable {P:Program} {σ:Sg} {h h':Tr EB} {H:AH}
theorem Zeg {k:Nat} {b:EB} (hn:newB h k b=some h'):h.get k=none∧Tr.set 40 h k b=some h':=by
 unfold newB at hn;split at hn
 ·rename_i e; exact ⟨e,hn⟩
 ·cases hn
theorem HR.new (hr:HR P σ h H) {k:Nat} {b:EB} {B:Blk} {p:Pay} (hn:newB h k b=some h') (hH:H p.r=none) (hb:RB P (sgS σ k p) p b B):Ext σ (sgS σ k p)∧HR P (sgS σ k p) h' (H.set p.r B):=by
 obtain ⟨hk,hs⟩:=Zeg hn;have hg:=Tr.get_set _ _ _ _ _ hs;have hx:Ext σ (sgS σ k p):=Zh4 (hr.dom k hk)
 have hlive:∀ i b',h.get i=some b'→b'.isDead=false→∃ q,σ i=some q∧q.r ≠ p.r:=fun i b' hi hd=>by
  rcases hr.blk i b' hi with h1 | ⟨q,B',h1,h2,h3⟩
  ·rw [hd] at h1; cases h1
  ·exact ⟨q,h1,fun e=>by rw [e,hH] at h2; cases h2⟩
 refine ⟨hx,⟨fun i c hi=>?_,fun i j c d q q' hi hj hc hd hq hq' e=>?_,fun i hi=>?_⟩⟩
 ·rw [hg] at hi;split at hi
  ·rename_i e; subst e; cases hi;exact .inr ⟨p,B,JV _ _ _,by simp [AH.set],hb⟩
  ·rcases hr.blk i c hi with h1 | ⟨q,B',h1,h2,h3⟩
   ·exact .inl h1
   ·refine .inr ⟨q,B',hx _ _ h1,?_,h3.mono hx⟩;rw [AH.set_ne]
    ·exact h2
    ·intro e; rw [e,hH] at h2; cases h2
 ·rw [hg] at hi hj;by_cases e1:i=k
  ·by_cases e2:j=k
   ·rw [e1,e2]
   ·rw [if_neg e2] at hj;obtain ⟨q2,g1,g2⟩:=hlive j d hj hd;rw [hx _ _ g1] at hq';cases hq';subst e1;rw [JV] at hq;cases hq;exact absurd e.symm g2
  ·rw [if_neg e1] at hi;obtain ⟨q1,f1,f2⟩:=hlive i c hi hc;rw [hx _ _ f1] at hq;cases hq;by_cases e2:j=k
   ·subst e2;rw [JV] at hq';cases hq';exact absurd e f2
   ·rw [if_neg e2] at hj;obtain ⟨q2,g1,g2⟩:=hlive j d hj hd;rw [hx _ _ g1] at hq';cases hq';exact hr.inj i j c d _ _ hi hj hc hd f1 g1 e
 ·rw [hg] at hi;split at hi
  ·cases hi
  ·rename_i e;unfold sgS;rw [if_neg e];exact hr.dom i hi
theorem HR.upd (hr:HR P σ h H) {k:Nat} {b b0:EB} {B:Blk} {p:Pay} (hk:h.get k=some b0) (hd:b0.isDead=false) (hp:σ k=some p) (hs:Tr.set 40 h k b=some h') (hb:RB P σ p b B):HR P σ h' (H.set p.r B):=by
 have hg:=Tr.get_set _ _ _ _ _ hs;refine ⟨fun i c hi=>?_,fun i j c d q q' hi hj hc hd' hq hq' e=>?_,fun i hi=>?_⟩
 ·rw [hg] at hi;split at hi
  ·rename_i e; subst e; cases hi;exact .inr ⟨p,B,hp,by simp [AH.set],hb⟩
  ·rename_i ne;cases hc:c.isDead with
   | true=>exact .inl hc
   | false =>
     rcases hr.blk i c hi with h1 | ⟨q,B',h1,h2,h3⟩
     ·exact .inl h1
     ·refine .inr ⟨q,B',h1,?_,h3⟩;rw [AH.set_ne]
      ·exact h2
      ·intro e; exact ne (hr.inj i k c b0 q p hi hk hc hd h1 hp e)
 ·rw [hg] at hi hj;by_cases e1:i=k
  ·by_cases e2:j=k
   ·rw [e1,e2]
   ·rw [if_neg e2] at hj;subst e1;exact hr.inj i j b0 d q q' hk hj hd hd' hq hq' e
  ·rw [if_neg e1] at hi;by_cases e2:j=k
   ·subst e2;exact hr.inj i j c b0 q q' hi hk hc hd hq hq' e
   ·rw [if_neg e2] at hj;exact hr.inj i j c d q q' hi hj hc hd' hq hq' e
 ·rw [hg] at hi;split at hi
  ·cases hi
  ·exact hr.dom i hi
theorem HR.kill (hr:HR P σ h H) {k:Nat} {b0:EB} {p:Pay} (hk:h.get k=some b0) (hd:b0.isDead=false) (hp:σ k=some p) (hs:Tr.set 40 h k .dead=some h'):HR P σ h' (H.del p.r):=by
 have hg:=Tr.get_set _ _ _ _ _ hs;refine ⟨fun i c hi=>?_,fun i j c d q q' hi hj hc hd' hq hq' e=>?_,fun i hi=>?_⟩
 ·rw [hg] at hi;split at hi
  ·cases hi; exact .inl rfl
  ·rename_i ne;cases hc:c.isDead with
   | true=>exact .inl hc
   | false =>
     rcases hr.blk i c hi with h1 | ⟨q,B',h1,h2,h3⟩
     ·exact .inl h1
     ·refine .inr ⟨q,B',h1,?_,h3⟩;rw [AH.del_ne]
      ·exact h2
      ·intro e; exact ne (hr.inj i k c b0 q p hi hk hc hd h1 hp e)
 ·rw [hg] at hi hj;by_cases e1:i=k
  ·rw [if_pos e1] at hi; cases hi; cases hc
  ·rw [if_neg e1] at hi;by_cases e2:j=k
   ·rw [if_pos e2] at hj; cases hj; cases hd'
   ·rw [if_neg e2] at hj;exact hr.inj i j c d q q' hi hj hc hd' hq hq' e
 ·rw [hg] at hi;split at hi
  ·cases hi
  ·exact hr.dom i hi
end
abbrev HE:=EV × Tr EB
def ZnD (P:Program) (nb:Nat) (e:TypeId) (h:Tr EB):Option HE :=
 match zeroT P e with
 | some zs=>(match newB h nb (.cells e (zs.map .lit)) with | some h'=>some (.ptr nb 0,h') | none=>none)
 | none=>none
def boxE (nb:Nat) (e:TypeId) (x:EV) (h:Tr EB):Option HE:=match newB h nb (.cells e x.cells) with | some h'=>some (.ptr nb 0,h') | none=>none
def ZnE (P:Program) (t:TypeId) (a x:EV) (h:Tr EB):Option HE :=
 match a with
 | .ptr k o=>(match szT P t with
   | some n=>cond (cond (ZpX n x.cells.length) (x.cells.all EV.one) false) (match h.get k with
     | some (.cells e cs)=>cond (Zqc (o+x.cells.length) cs.length) (match Tr.set 40 h k (.cells e (setAt cs o x.cells)) with | some h'=>some (.lit undef,h') | none=>none) none
     | some (.grown e s cs)=>cond (Zqc (o+x.cells.length) cs.length) (match Tr.set 40 h k (.grown e s (setAt cs o x.cells)) with | some h'=>some (.lit undef,h') | none=>none) none
     | _=>none) none
   | none=>none)
 | _=>none
def Ziz (nb:Nat) (t:TypeId) (h:Tr EB):Option HE:=match newB h nb (.map t []) with | some h'=>some (.map nb,h') | none=>none
def Zfe (P:Program) (nb:Nat) (t:TypeId) (l c:EV) (h:Tr EB):Option HE :=
 match l,c with
 | .lit (.int _ l),.lit (.int _ c)=>(match elT P t with
   | some (e,k,b)=>(match zeroT P e with
     | some zs=>cond (cond (ZpX zs.length k) (cond (decide (0≤l)) (cond (decide (l≤c)) (cond (decide ((b:Int) * c≤281474976710656)) (decide (c≤9223372036854775807)) false) false) false) false)
        (match newB h nb (.cells e ((ZqH c.toNat zs).flatten.map .lit)) with | some h'=>some (.sl nb 0 l.toNat (some c.toNat) 0,h') | none=>none) none
     | none=>none)
   | none=>none)
 | _,_=>none
def litL:List EV→Option (List Value)
 | []=>some []
 | .lit v::l=>(match litL l with | some vs=>some (v::vs) | none=>none)
 | _=>none
def litE:EV→Option Value
 | .lit v=>some v
 | .agg cs=>(match litL cs with | some vs=>some (.agg vs.toArray) | none=>none)
 | _=>none
def Zh5 (P:Program) (t:TypeId) (k:Value):Bool:=match P.underlying t with | some (.map kt _)=>(keyOf P kt k).isSome | _=>false
def ZkD (P:Program) (mt:TypeId→Option Value) (t:TypeId) (x key:EV) (ok:Bool) (h:Tr EB):Option EV :=
 match mt t,litE key with
 | some z,some kv=>cond (cond (Zgj kv) (Zh5 P t kv) false) (match x with
   | .lit (.map none)=>some (okE ok (.lit z) false)
   | .map q=>(match h.get q with
     | some (.map t' l)=>cond (ZpX t' t) (match lookM l kv with | some v=>some (okE ok v true) | none=>some (okE ok (.lit z) false)) none
     | _=>none)
   | _=>none) none
 | _,_=>none
def Zh6 (P:Program) (mt:TypeId→Option Value) (t:TypeId) (x key y:EV) (h:Tr EB):Option HE :=
 match mt t,litE key with
 | some _,some kv=>cond (cond (Zgj kv) (Zh5 P t kv) false) (match x with
   | .map q=>(match h.get q with
     | some (.map t' l)=>cond (ZpX t' t) (match Tr.set 40 h q (.map t ((kv,y)::l)) with | some h'=>some (.lit undef,h') | none=>none) none
     | _=>none)
   | _=>none) none
 | _,_=>none
def srcE (h:Tr EB) (k:Nat):EV→Option (Nat × List EV)
 | .isl _ n cs=>cond (Zqc (n * k) cs.length) (some (n,cs.take (n * k))) none
 | .lit (.slice none 0 0)=>some (0,[])
 | .sl q o n _ _=>(match h.get q with
   | some (.cells _ cs)=>cond (Zqc (o+n * k) cs.length) (some (n,(cs.drop o).take (n * k))) none
   | some (.grown _ _ cs)=>cond (Zqc (o+n * k) cs.length) (some (n,(cs.drop o).take (n * k))) none
   | _=>none)
 | _=>none
def ZkE (P:Program) (nb:Nat) (t:TypeId) (s x:EV) (h:Tr EB):Option HE :=
 match elT P t with
 | some (e,k,b)=>(match zeroT P e with
   | some zs=>cond (cond (ZpX zs.length k) (Zqc 1 k) false) (match srcE h k x with
     | some (m,news)=>cond (news.all EV.one) (match s with
       | .lit (.slice none 0 0)=>cond (ZpX m 0) (some (s,h)) (cond (cond (Zqc (m * b) 140737488355328) (Zqc m 9223372036854775807) false)
          (match newB h nb (.grown e k news) with | some h'=>some (.sl nb 0 m none 0,h') | none=>none) none)
       | .isl true n cs=>cond (ZpX cs.length (n * k)) (cond (cond (Zqc ((n+m) * b) 140737488355328) (Zqc (n+m) 9223372036854775807) false) (cond (ZpX m 0) (some (s,h))
          (match newB h nb (.grown e k (cs++news)) with | some h'=>some (.sl nb 0 (n+m) none 0,h') | none=>none)) none) none
       | .sl q o n (some c) d=>cond (cond (ZpX (c-d) n) (cond (Zqc ((n+m) * b) 140737488355328) (Zqc (n+m) 9223372036854775807) false) false) (match srcE h k s with
          | some (_,cs)=>cond (ZpX m 0) (some (s,h)) (match newB h nb (.grown e k (cs++news)) with | some h'=>some (.sl nb 0 (n+m) none 0,h') | none=>none)
          | none=>none) none
       | .sl q o n none d=>(match h.get q with
          | some (.grown e' k' cs)=>cond (cond (ZpX o 0) (cond (ZpX d 0) (cond (ZpX e' e) (cond (ZpX k' k) (cond (ZpX cs.length (n * k)) (cond (Zqc ((n+m) * b) 140737488355328) (cond (Zqc (n+m) 9223372036854775807) (Zqc 1 (n+m)) false) false) false) false) false) false) false)
             (match Tr.set 40 h q .dead with
              | some h1=>(match newB h1 nb (.grown e k (cs++news)) with | some h'=>some (.sl nb 0 (n+m) none 0,h') | none=>none)
              | none=>none) none
          | _=>none)
       | _=>none) none
     | none=>none) none
   | none=>none)
 | none=>none
section
variable {P:Program} {σ:Sg} {h h':Tr EB} {H:AH} {K:VE→AH→Prop}
def EK (P:Program) (σ:Sg) (v:EV) (h':Tr EB) (K:VE→AH→Prop):Prop:=∀ σ' H' x,Ext σ σ'→HR P σ' h' H'→RV σ' v x→K (.ret x) H'
theorem Zkh {nb:Nat} {e:TypeId} {v:EV} (hr:HR P σ h H) (he:ZnD P nb e h=some (v,h')) (hK:EK P σ v h' K):Zb7 P e H K:=by
 unfold ZnD at he;split at he
 ·rename_i zs hz;split at he
  ·rename_i h1 hn;simp only [Option.some.injEq,Prod.mk.injEq] at he;obtain ⟨rfl,rfl⟩:=he;simp only [Zb7,hz];intro r hH;obtain ⟨g1,g2⟩:=hr.new (p:={ r:=r }) hn hH (B:=.cells e (zs.map .lit) 0) ⟨_,rfl,RVL.lits zs⟩;exact hK _ _ _ g1 g2 ⟨_,JV _ _ _,rfl⟩
  ·cases he
 ·cases he
theorem ZmS {nb:Nat} {e:TypeId} {x v:EV} {x':VV} (hr:HR P σ h H) (hx:RV σ x x') (he:boxE nb e x h=some (v,h')) (hK:EK P σ v h' K):vcBox e x' H K:=by
 unfold boxE at he;split at he
 ·rename_i h1 hn;simp only [Option.some.injEq,Prod.mk.injEq] at he;obtain ⟨rfl,rfl⟩:=he;intro r hH;obtain ⟨g1,g2⟩:=hr.new (p:={ r:=r }) hn hH (B:=.cells e x'.cells 0) ⟨_,rfl,RVL.mono (Zh4 (hr.dom _ (Zeg hn).1)) _ _ hx.cells⟩;exact hK _ _ _ g1 g2 ⟨_,JV _ _ _,rfl⟩
 ·cases he
theorem Zki {t:TypeId} {a x v:EV} {a' x':VV} (hr:HR P σ h H) (ha:RV σ a a') (hx:RV σ x x') (he:ZnE P t a x h=some (v,h')) (hK:EK P σ v h' K):Zae P t a' x' H K:=by
 unfold ZnE at he;split at he
 ·rename_i k o;obtain ⟨p,hp,rfl⟩:=ha;split at he
  ·rename_i n hsz;have hq:=condS he;clear he;obtain ⟨hc,he⟩:=hq;obtain ⟨hc1,hc2⟩:=cond3 hc;have e1:szT P t=some x'.cells.length:=by rw [hsz,Zp0 hc1,hx.cells.length]
   have e2:x'.cells.all VV.one=true:=by rw [← hx.cells.ones]; exact hc2
   split at he
   ·rename_i e cs hk;have hq:=condS he;clear he;obtain ⟨hc3,he⟩:=hq;have hle:=Zqd hc3;split at he
    ·rename_i h1 hs;simp only [Option.some.injEq,Prod.mk.injEq] at he;obtain ⟨rfl,rfl⟩:=he;rcases hr.blk k _ hk with hd | ⟨q,B,g1,g2,g3⟩
     ·cases hd
     ·rw [hp] at g1; cases g1;obtain ⟨ys,rfl,hl⟩:=g3;simp only [Zae,ptrV,g2];refine ⟨e1,e2,by rw [hx.cells.length,hl.length]; exact hle,hK _ _ _ (Ext.refl σ) (hr.upd hk rfl hp hs ⟨_,rfl,hl.setAt o hx.cells⟩) rfl⟩
    ·cases he
   ·rename_i e s cs hk;have hq:=condS he;clear he;obtain ⟨hc3,he⟩:=hq;have hle:=Zqd hc3;split at he
    ·rename_i h1 hs;simp only [Option.some.injEq,Prod.mk.injEq] at he;obtain ⟨rfl,rfl⟩:=he;rcases hr.blk k _ hk with hd | ⟨q,B,g1,g2,g3⟩
     ·cases hd
     ·rw [hp] at g1; cases g1;obtain ⟨ys,sp,rfl,hl,h3,h4⟩:=g3;simp only [Zae,ptrV,g2];refine ⟨e1,e2,by rw [hx.cells.length,hl.length]; exact hle,hK _ _ _ (Ext.refl σ) (hr.upd hk rfl hp hs ⟨_,sp,rfl,hl.setAt o hx.cells,by rw [Zba]; exact h3,h4⟩) rfl⟩
    ·cases he
   ·cases he
  ·cases he
 ·cases he
theorem Zhn {nb:Nat} {t:TypeId} {v:EV} (hr:HR P σ h H) (he:Ziz nb t h=some (v,h')) (hK:EK P σ v h' K):Zcd P t H K:=by
 unfold Ziz at he;split at he
 ·rename_i h1 hn;simp only [Option.some.injEq,Prod.mk.injEq] at he;obtain ⟨rfl,rfl⟩:=he;intro r hH;obtain ⟨g1,g2⟩:=hr.new (p:={ r:=r }) hn hH (B:=.map (Jq P t) (fun _=>none)) ⟨_,rfl,fun k hk=>by simp [lookM]⟩;exact hK _ _ _ g1 g2 ⟨_,JV _ _ _,rfl⟩
 ·cases he
theorem Zgm {nb:Nat} {t:TypeId} {l c v:EV} {l' c':VV} (hr:HR P σ h H) (hl:RV σ l l') (hc:RV σ c c') (he:Zfe P nb t l c h=some (v,h')) (hK:EK P σ v h' K):Zg4 P t l' c' H K:=by
 unfold Zfe at he;split at he
 ·rename_i kl l kc c;obtain rfl:=hl;obtain rfl:=hc;split at he
  ·rename_i e k b hel;split at he
   ·rename_i zs hz;have hq:=condS he;clear he;obtain ⟨hc,he⟩:=hq;obtain ⟨hc1,hc⟩:=cond3 hc;obtain ⟨hc2,hc⟩:=cond3 hc;obtain ⟨hc3,hc⟩:=cond3 hc;obtain ⟨hc4,hc5⟩:=cond3 hc;split at he
    ·rename_i h1 hn;simp only [Option.some.injEq,Prod.mk.injEq] at he;obtain ⟨rfl,rfl⟩:=he;simp only [Zg4,hel,hz];have hlc:=of_decide_eq_true hc3;have hl0:=of_decide_eq_true hc2;refine ⟨Zp0 hc1,hl0,hlc,of_decide_eq_true hc4,of_decide_eq_true hc5,fun r hH=>?_⟩;obtain ⟨g1,g2⟩:=hr.new (p:={ r:=r }) hn hH (B:=.cells e ((ZqH c.toNat zs).flatten.map .lit) 0) ⟨_,rfl,RVL.lits _⟩;exact hK _ _ _ g1 g2 ⟨_,JV _ _ _,by simp; omega,rfl⟩
    ·cases he
   ·cases he
  ·cases he
 ·cases he
theorem ZjT:∀ {cs:List EV} {vs:List Value} {ys:List VV},litL cs=some vs→RVL σ cs ys→Yw (.agg ys)=some vs
 | [],vs,ys,h,hl=>by
   simp only [litL,Option.some.injEq] at h;subst h;simp only [RVL] at hl;subst hl;rfl
 | c::cs,vs,ys,h,hl=>by
   obtain ⟨y,ys',rfl,h1,h2⟩:=hl;cases c with
   | lit v =>
     obtain rfl:=h1;simp only [litL] at h;split at h
     ·rename_i us hu;simp only [Option.some.injEq] at h;subst h
      have:=ZjT hu h2
      simp only [Yw,List.mapM_cons] at this ⊢;simp [this]
     ·cases h
   | _=>simp [litL] at h
theorem ZjU {x:EV} {v:Value} {y:VV} (h:litE x=some v) (hx:RV σ x y):Zek y=some v:=by
 cases x with
 | lit u=>obtain rfl:=hx; exact h
 | agg cs =>
   obtain ⟨ys,rfl,hl⟩:=hx;simp only [litE] at h;split at h
   ·rename_i vs hv;simp only [Option.some.injEq] at h;subst h;simp [Zek,ZjT hv hl]
   ·cases h
 | _=>simp [litE] at h
theorem ZcK {t:TypeId} {k:Value} (h:Zh5 P t k=true):Jq P t k:=by
 unfold Zh5 at h;split at h
 ·rename_i kt et hu;obtain ⟨l,hl⟩:=Option.isSome_iff_exists.1 h;exact ⟨kt,et,l,hu,hl⟩
 ·cases h
theorem Zi7 {mt:TypeId→Option Value} (hmt:∀ t z,mt t=some z→MapT P t z) {t:TypeId} {x key v:EV} {x' key':VV} {ok:Bool} (hr:HR P σ h H) (hx:RV σ x x') (hk:RV σ key key') (he:ZkD P mt t x key ok h=some v) (hK:∀ z,RV σ v z→K (.ret z) H) :
 ZaT P t x' key' ok H K:=by
 unfold ZkD at he;split at he
 ·rename_i z kv hz hkv;have hq:=condS he;clear he;obtain ⟨hc,he⟩:=hq;obtain ⟨hc1,hc2⟩:=cond3 hc;refine ⟨z,hmt t z hz,kv,ZjU hkv hk,ZcK hc2,?_⟩;split at he
  ·obtain rfl:=hx;simp only [Option.some.injEq] at he;subst he;exact hK _ (ZcB rfl)
  ·rename_i q;obtain ⟨p,hp,rfl⟩:=hx;split at he
   ·rename_i t' l hq;have hqq:=condS he;clear he;obtain ⟨hc3,he⟩:=hqq;obtain rfl:=Zp0 hc3;rcases hr.blk q _ hq with hd | ⟨q',B,g1,g2,g3⟩
    ·cases hd
    ·rw [hp] at g1; cases g1;obtain ⟨m,rfl,hm⟩:=g3;dsimp only;rw [g2];dsimp only;refine ⟨fun k h=>h,?_⟩;have hmk:=hm kv hc1;split at he
     ·rename_i w hw;rw [hw] at hmk;obtain ⟨y,e1,hy⟩:=hmk;simp only [Option.some.injEq] at he;subst he;rw [e1];exact hK _ (ZcB hy)
     ·rename_i hw;rw [hw] at hmk;simp only [Option.some.injEq] at he;subst he;rw [show m kv=none from hmk];exact hK _ (ZcB rfl)
   ·cases he
  ·cases he
 ·cases he
theorem ZeS {mt:TypeId→Option Value} (hmt:∀ t z,mt t=some z→MapT P t z) {t:TypeId} {x key y v:EV} {x' key' y':VV} (hr:HR P σ h H) (hx:RV σ x x') (hk:RV σ key key') (hy:RV σ y y') (he:Zh6 P mt t x key y h=some (v,h')) (hK:EK P σ v h' K) :
 ZaU P t x' key' y' H K:=by
 unfold Zh6 at he;split at he
 ·rename_i z kv hz hkv;have hq:=condS he;clear he;obtain ⟨hc,he⟩:=hq;obtain ⟨hc1,hc2⟩:=cond3 hc;refine ⟨z,hmt t z hz,kv,ZjU hkv hk,ZcK hc2,?_⟩;split at he
  ·rename_i q;obtain ⟨p,hp,rfl⟩:=hx;split at he
   ·rename_i t' l hq;have hqq:=condS he;clear he;obtain ⟨hc3,he⟩:=hqq;obtain rfl:=Zp0 hc3;split at he
    ·rename_i h1 hs;simp only [Option.some.injEq,Prod.mk.injEq] at he;obtain ⟨rfl,rfl⟩:=he;rcases hr.blk q _ hq with hd | ⟨q',B,g1,g2,g3⟩
     ·cases hd
     ·rw [hp] at g1; cases g1;obtain ⟨m,rfl,hm⟩:=g3;dsimp only;rw [g2];dsimp only;refine ⟨fun k h=>h,ZcK hc2,hK _ _ _ (Ext.refl σ) (hr.upd hq rfl hp hs ⟨_,rfl,fun k hk=>?_⟩) rfl⟩;simp only [lookM];cases hb:ZeQ k kv with
      | true =>
        have:=(Zh3 hk).1 hb
        subst this;simp only [cond_true];exact ⟨y',ZdP _ _ _,hy⟩
      | false =>
        have:k ≠ kv:=fun e=>by rw [(Zh3 hk).2 e] at hb; cases hb
        simp only [cond_false,Zel _ _ this];exact hm k hk
    ·cases he
   ·cases he
  ·cases he
 ·cases he
end
end Go.PV
end
section
open Nat renaming le_of_ble_eq_true→Zqd,eq_of_beq_eq_true→Zp0,beq→ZpX,zero_add→Zp2
namespace Go.PV
section
variable {P:Program} {σ:Sg} {h h':Tr EB} {H H0:AH} {K:VE→AH→Prop}
theorem Zph {k m:Nat} {x:EV} {x':VV} {news:List EV} (hr:HR P σ h H) (hx:RV σ x x') (he:srcE h k x=some (m,news)):∃ ys,srcV H k x'=some (m,ys)∧RVL σ news ys:=by
 unfold srcE at he;split at he
 ·rename_i ex n cs;obtain ⟨ys,rfl,hl⟩:=hx;have hq:=condS he;clear he;obtain ⟨hc,he⟩:=hq;simp only [Option.some.injEq,Prod.mk.injEq] at he;obtain ⟨rfl,rfl⟩:=he
  have:n * k≤ys.length:=by rw [hl.length]; exact Zqd hc
  exact ⟨ys.take (n * k),by simp [srcV,this],hl.take _⟩
 ·obtain rfl:=hx;simp only [Option.some.injEq,Prod.mk.injEq] at he;obtain ⟨rfl,rfl⟩:=he;exact ⟨[],rfl,rfl⟩
 ·rename_i q o n c d;obtain ⟨p,hp,hn,rfl⟩:=hx;split at he
  ·rename_i e cs hq;have hqq:=condS he;clear he;obtain ⟨hc,he⟩:=hqq;simp only [Option.some.injEq,Prod.mk.injEq] at he;obtain ⟨rfl,rfl⟩:=he;rcases hr.blk q _ hq with hd | ⟨q',B,g1,g2,g3⟩
   ·cases hd
   ·rw [hp] at g1; cases g1;obtain ⟨ys,rfl,hl⟩:=g3
    have:o+n * k≤ys.length:=by rw [hl.length]; exact Zqd hc
    exact ⟨(ys.drop o).take (n * k),by simp [srcV,g2,this],(hl.drop _).take _⟩
  ·rename_i e s cs hq;have hqq:=condS he;clear he;obtain ⟨hc,he⟩:=hqq;simp only [Option.some.injEq,Prod.mk.injEq] at he;obtain ⟨rfl,rfl⟩:=he;rcases hr.blk q _ hq with hd | ⟨q',B,g1,g2,g3⟩
   ·cases hd
   ·rw [hp] at g1; cases g1;obtain ⟨ys,sp,rfl,hl,_⟩:=g3
    have:o+n * k≤ys.length:=by rw [hl.length]; exact Zqd hc
    exact ⟨(ys.drop o).take (n * k),by simp [srcV,g2,this],(hl.drop _).take _⟩
  ·cases he
 ·cases he
theorem HR.own (hr:HR P σ h H0) {nb:Nat} {e:TypeId} {k N:Nat} {cs:List EV} {ys:List VV} {v':VV} {H':AH} (hn:newB h nb (.grown e k cs)=some h') (hl:RVL σ cs ys) (hN:N ≠ 0) (ho:OwnX H0 H' e k v' N ys) :
 ∃ σ',Ext σ σ'∧HR P σ' h' H'∧RV σ' (.sl nb 0 N none 0) v':=by
 rcases ho with ⟨_,h0,_⟩ | ⟨g,c,sp,rfl,h0,rfl,h1,h2,h3,h4⟩
 ·exact absurd h0 hN
 ·have hx:Ext σ (sgS σ nb { r:=g,c:=c }):=Zh4 (hr.dom _ (Zeg hn).1);obtain ⟨g1,g2⟩:=hr.new (p:={ r:=g,c:=c }) hn h0 (B:=.cells e ys sp) ⟨ys,sp,rfl,RVL.mono hx _ _ hl,h2,h4⟩;exact ⟨_,g1,g2,_,JV _ _ _,by simpa using h3,by simp⟩
theorem Zi8 {nb:Nat} {t:TypeId} {s x v:EV} {s' x':VV} (hr:HR P σ h H) (hs:RV σ s s') (hx:RV σ x x') (he:ZkE P nb t s x h=some (v,h')) (hK:EK P σ v h' K):Zaz P t s' x' H K:=by
 unfold ZkE at he;split at he
 ·rename_i e k b hel;split at he
  ·rename_i zs hz;have hq:=condS he;clear he;obtain ⟨hc,he⟩:=hq;obtain ⟨hc1,hc2⟩:=cond3 hc;have hzk:=Zp0 hc1;have hk:0<k:=Zqd hc2;split at he
   ·rename_i m news hsrc;obtain ⟨ys,hys,hnl⟩:=Zph hr hx hsrc;have hq:=condS he;clear he;obtain ⟨hone,he⟩:=hq;have hone':ys.all VV.one=true:=by rw [← hnl.ones]; exact hone
    split at he
    ·obtain rfl:=hs;cases hm:ZpX m 0 with
     | true =>
       have:=Zp0 hm
       subst this;simp only [hm,cond_true,Option.some.injEq,Prod.mk.injEq] at he;obtain ⟨rfl,rfl⟩:=he;exact .inr (.inr ⟨e,k,b,zs,0,[],0,ys,hel,hz,hzk,hk,.inl ⟨rfl,rfl,rfl⟩,hys,hone',by omega,by omega,fun _=>hK _ _ _ (Ext.refl σ) hr rfl,fun h=>absurd rfl h⟩)
     | false =>
       have hm0:m ≠ 0:=fun e=>by rw [e] at hm; cases hm
       simp only [hm,cond_false] at he;have hq:=condS he;clear he;obtain ⟨hc,he⟩:=hq;obtain ⟨hc3,hc4⟩:=cond3 hc;split at he
       ·rename_i h1 hn;simp only [Option.some.injEq,Prod.mk.injEq] at he;obtain ⟨rfl,rfl⟩:=he;refine .inr (.inr ⟨e,k,b,zs,0,[],m,ys,hel,hz,hzk,hk,.inl ⟨rfl,rfl,rfl⟩,hys,hone',by rw [Zp2]; exact Zqd hc3,by rw [Zp2]; exact Zqd hc4,fun h=>absurd h hm0,fun _ v' H' ho=>?_⟩);rw [Zp2,List.nil_append] at ho;obtain ⟨σ',g1,g2,g3⟩:=hr.own hn hnl hm0 ho;exact hK _ _ _ g1 g2 g3
       ·cases he
    ·rename_i n cs;obtain ⟨zs',rfl,hcl⟩:=hs;have hq:=condS he;clear he;obtain ⟨hc5,he⟩:=hq;have hq:=condS he;clear he;obtain ⟨hc,he⟩:=hq;obtain ⟨hc3,hc4⟩:=cond3 hc;have hlen:zs'.length=n * k:=by rw [hcl.length]; exact Zp0 hc5
     cases hm:ZpX m 0 with
     | true =>
       have:=Zp0 hm
       subst this;simp only [hm,cond_true,Option.some.injEq,Prod.mk.injEq] at he;obtain ⟨rfl,rfl⟩:=he;exact .inr (.inl ⟨e,k,b,zs,n,zs',0,ys,hel,hz,hzk,hk,rfl,hlen,hys,hone',Zqd hc3,Zqd hc4,fun _=>hK _ _ _ (Ext.refl σ) hr ⟨_,rfl,hcl⟩,fun h=>absurd rfl h⟩)
     | false =>
       have hm0:m ≠ 0:=fun e=>by rw [e] at hm; cases hm
       simp only [hm,cond_false] at he;split at he
       ·rename_i h1 hn;simp only [Option.some.injEq,Prod.mk.injEq] at he;obtain ⟨rfl,rfl⟩:=he;refine .inr (.inl ⟨e,k,b,zs,n,zs',m,ys,hel,hz,hzk,hk,rfl,hlen,hys,hone',Zqd hc3,Zqd hc4,fun h=>absurd h hm0,fun _ v' H' ho=>?_⟩);obtain ⟨σ',g1,g2,g3⟩:=hr.own hn (hcl.append hnl) (by omega) ho;exact hK _ _ _ g1 g2 g3
       ·cases he
    ·rename_i q o n c d;have hs0:=hs;obtain ⟨p,hp,hnc,rfl⟩:=hs;have hq:=condS he;clear he;obtain ⟨hc,he⟩:=hq;obtain ⟨hc5,hc⟩:=cond3 hc;obtain ⟨hc3,hc4⟩:=cond3 hc;have hcn:c-d=n:=Zp0 hc5;split at he
     ·rename_i n' cs hsr
      have hcap:∃ us,n'=n∧capN H k (.lit (.slice (some ⟨p.r,o,none⟩) n ((some c).getD p.c-d))) n us∧RVL σ cs us:=by
       simp only [srcE] at hsr;simp only [Option.getD_some,hcn];split at hsr
       ·rename_i e' cs' hbq;have hqq:=condS hsr;clear hsr;obtain ⟨hc6,hsr⟩:=hqq;simp only [Option.some.injEq,Prod.mk.injEq] at hsr;obtain ⟨rfl,rfl⟩:=hsr;rcases hr.blk q _ hbq with hd | ⟨q',B,g1,g2,g3⟩
        ·cases hd
        ·rw [hp] at g1; cases g1;obtain ⟨us,rfl,hl⟩:=g3;exact ⟨_,rfl,.inr ⟨_,_,_,_,_,rfl,g2,by rw [hl.length]; exact Zqd hc6,rfl⟩,(hl.drop _).take _⟩
       ·rename_i e' s' cs' hbq;have hqq:=condS hsr;clear hsr;obtain ⟨hc6,hsr⟩:=hqq;simp only [Option.some.injEq,Prod.mk.injEq] at hsr;obtain ⟨rfl,rfl⟩:=hsr;rcases hr.blk q _ hbq with hd | ⟨q',B,g1,g2,g3⟩
        ·cases hd
        ·rw [hp] at g1; cases g1;obtain ⟨us,sp,rfl,hl,_⟩:=g3;exact ⟨_,rfl,.inr ⟨_,_,_,_,_,rfl,g2,by rw [hl.length]; exact Zqd hc6,rfl⟩,(hl.drop _).take _⟩
       ·cases hsr
      obtain ⟨us,rfl,hcap,hul⟩:=hcap;cases hm:ZpX m 0 with
      | true =>
        have:=Zp0 hm
        subst this;simp only [hm,cond_true,Option.some.injEq,Prod.mk.injEq] at he;obtain ⟨rfl,rfl⟩:=he;exact .inr (.inr ⟨e,k,b,zs,n',us,0,ys,hel,hz,hzk,hk,hcap,hys,hone',Zqd hc3,Zqd hc4,fun _=>hK _ _ _ (Ext.refl σ) hr hs0,fun h=>absurd rfl h⟩)
      | false =>
        have hm0:m ≠ 0:=fun e=>by rw [e] at hm; cases hm
        simp only [hm,cond_false] at he;split at he
        ·rename_i h1 hn;simp only [Option.some.injEq,Prod.mk.injEq] at he;obtain ⟨rfl,rfl⟩:=he;refine .inr (.inr ⟨e,k,b,zs,n',us,m,ys,hel,hz,hzk,hk,hcap,hys,hone',Zqd hc3,Zqd hc4,fun h=>absurd h hm0,fun _ v' H' ho=>?_⟩);obtain ⟨σ',g1,g2,g3⟩:=hr.own hn (hul.append hnl) (by omega) ho;exact hK _ _ _ g1 g2 g3
        ·cases he
     ·cases he
    ·rename_i q o n d;obtain ⟨p,hp,hnc,rfl⟩:=hs;split at he
     ·rename_i e' k' cs hbq;have hq:=condS he;clear he;obtain ⟨hc,he⟩:=hq;obtain ⟨ha1,hc⟩:=cond3 hc;obtain ⟨ha2,hc⟩:=cond3 hc;obtain ⟨ha3,hc⟩:=cond3 hc;obtain ⟨ha4,hc⟩:=cond3 hc;obtain ⟨ha5,hc⟩:=cond3 hc;obtain ⟨ha6,hc⟩:=cond3 hc;obtain ⟨ha7,ha8⟩:=cond3 hc;obtain rfl:=Zp0 ha1;obtain rfl:=Zp0 ha2;obtain rfl:=Zp0 ha3;obtain rfl:=Zp0 ha4;have hl5:=Zp0 ha5;split at he
      ·rename_i h1 hs1;split at he
       ·rename_i h2 hn;simp only [Option.some.injEq,Prod.mk.injEq] at he;obtain ⟨rfl,rfl⟩:=he;rcases hr.blk q _ hbq with hd | ⟨q',B,g1,g2,g3⟩
        ·cases hd
        ·rw [hp] at g1; cases g1;obtain ⟨us,sp,rfl,hl,h3,h4⟩:=g3;have hkill:=hr.kill hbq rfl hp hs1
         have hset:H=(H.del p.r).set p.r (.cells e' us sp):=by
          funext i
          simp only [AH.set,AH.del];split
          ·rename_i e; rw [e,g2]
          ·rfl
         simp only [Option.getD_none,Nat.sub_zero] at hnc ⊢;refine .inl ⟨e',k',b,zs,H.del p.r,n,us,m,ys,hel,hz,hzk,hk,.inr ⟨p.r,p.c,sp,rfl,AH.del_same _ _,hset,by rw [hl.length,hl5],h3,hnc,h4⟩,hys,hone',Zqd ha6,Zqd ha7,fun v' H' ho=>?_⟩
         have:=Zqd ha8
         obtain ⟨σ',g1,g2,g3⟩:=hkill.own hn (hl.append hnl) (by omega) ho;exact hK _ _ _ g1 g2 g3
       ·cases he
      ·cases he
     ·cases he
    ·cases he
   ·cases he
  ·cases he
 ·cases he
end
end Go.PV
end
section
open Nat renaming beq→ZpX,eq_of_beq_eq_true→Zp0
namespace Go.PV
mutual
def EV.closedB:EV→Bool
 | .lit _=>true
 | .isl _ _ cs=>XC cs
 | .iptr cs=>XC cs
 | .agg cs=>XC cs
 | .tuple cs=>XC cs
 | .func _ a b=>cond (XC a) (XC b) false
 | .iface _ x=>x.closedB
 | _=>false
def XC:List EV→Bool
 | []=>true
 | v::vs=>cond v.closedB (XC vs) false
end
mutual
def EV.vv:EV→VV
 | .lit v=>.lit v
 | .isl ex n cs=>.slice ex n (vvL cs)
 | .iptr cs=>.iptr (vvL cs)
 | .agg cs=>.agg (vvL cs)
 | .tuple cs=>.tuple (vvL cs)
 | .func f a b=>.func (.func f) (vvL a) (vvL b)
 | .iface t x=>.iface t x.vv
 | _=>ZD
def vvL:List EV→List VV
 | []=>[]
 | v::vs=>v.vv::vvL vs
end
mutual
theorem RV.vv {σ:Sg}:∀ (v:EV),v.closedB=true→RV σ v v.vv
 | .lit v,h=>rfl
 | .isl ex n cs,h=>⟨_,rfl,RVL.vv cs h⟩
 | .iptr cs,h=>⟨_,rfl,RVL.vv cs h⟩
 | .agg cs,h=>⟨_,rfl,RVL.vv cs h⟩
 | .tuple cs,h=>⟨_,rfl,RVL.vv cs h⟩
 | .func f a b,h=>by
   simp only [EV.closedB] at h;obtain ⟨h1,h2⟩:=cond3 h;exact ⟨_,_,rfl,RVL.vv a h1,RVL.vv b h2⟩
 | .iface t x,h=>⟨_,rfl,RV.vv x h⟩
 | .ptr _ _,h=>by cases h
 | .sl _ _ _ _ _,h=>by cases h
 | .es _ _ _ _ _,h=>by cases h
 | .map _,h=>by cases h
 | .yield _,h=>by cases h
theorem RVL.vv {σ:Sg}:∀ (vs:List EV),XC vs=true→RVL σ vs (vvL vs)
 | [],h=>rfl
 | v::vs,h=>by
   simp only [XC] at h;obtain ⟨h1,h2⟩:=cond3 h;exact ⟨_,_,rfl,RV.vv v h1,RVL.vv vs h2⟩
end
theorem RV.vv_eq {σ:Sg} {v:EV} {x:VV} (h:v.closedB=true) (hx:RV σ v x):x=v.vv:=RV.fn (Ext.refl σ) v x v.vv hx (RV.vv v h)
theorem RVL.vv_eq {σ:Sg} {v:List EV} {x:List VV} (h:XC v=true) (hx:RVL σ v x):x=vvL v:=RVL.fn (Ext.refl σ) v x (vvL v) hx (RVL.vv v h)
mutual
def Xd:EV→Tr EB→Option (EV × Tr EB)
 | .sl k o n c d,h=>(match h.get k with
   | some (.cells _ cs)=>cond (cond (ZpX o 0) (XC cs) false) (match Tr.set 40 h k .dead with | some h'=>some (.isl false n cs,h') | none=>none) none
   | some (.grown _ _ cs)=>cond (cond (ZpX o 0) (XC cs) false) (match Tr.set 40 h k .dead with | some h'=>some (.isl false n cs,h') | none=>none) none
   | _=>none)
 | .agg cs,h=>(match ZbK cs h with | some (cs',h')=>some (.agg cs',h') | none=>none)
 | .tuple cs,h=>(match ZbK cs h with | some (cs',h')=>some (.tuple cs',h') | none=>none)
 | v,h=>cond v.closedB (some (v,h)) none
def ZbK:List EV→Tr EB→Option (List EV × Tr EB)
 | [],h=>some ([],h)
 | v::vs,h=>(match Xd v h with
   | some (v',h')=>(match ZbK vs h' with | some (vs',h'')=>some (v'::vs',h'') | none=>none)
   | none=>none)
end
section
variable {P:Program} {σ:Sg}
theorem ZjV {h h':Tr EB} {H:AH} {k n:Nat} {c:Option Nat} {d:Nat} {x:VV} {cs:List EV} {b:EB} (hr:HR P σ h H) (hx:RV σ (.sl k 0 n c d) x) (hb:h.get k=some b) (hbc:(∃ e,b=.cells e cs)∨∃ e s,b=.grown e s cs) (hcl:XC cs=true)
 (hs:Tr.set 40 h k .dead=some h'):∃ H',GhV H x H' (EV.vv (.isl false n cs))∧HR P σ h' H'∧XC cs=true:=by
 obtain ⟨p,hp,hn,rfl⟩:=hx;have hlive:b.isDead=false:=by rcases hbc with ⟨e,rfl⟩ | ⟨e,s,rfl⟩<;>rfl
 rcases hr.blk k b hb with hd | ⟨q,B,g1,g2,g3⟩
 ·rw [hlive] at hd; cases hd
 ·rw [hp] at g1; cases g1
  have hB:∃ e ys sp,B=.cells e ys sp∧RVL σ cs ys:=by
   rcases hbc with ⟨e,rfl⟩ | ⟨e,s,rfl⟩
   ·obtain ⟨ys,rfl,hl⟩:=g3; exact ⟨_,ys,0,rfl,hl⟩
   ·obtain ⟨ys,sp,rfl,hl,_⟩:=g3; exact ⟨_,ys,sp,rfl,hl⟩
  obtain ⟨e,ys,sp,rfl,hl⟩:=hB;obtain rfl:=RVL.vv_eq hcl hl;exact ⟨_,GhV.slice g2 hn,hr.kill hb hlive hp hs,hcl⟩
theorem XU {v v':EV} {h h':Tr EB} {H:AH} {x:VV} (he:cond v.closedB (some (v,h)) none=some (v',h')) (hr:HR P σ h H) (hx:RV σ v x):∃ H',GhV H x H' v'.vv∧HR P σ h' H'∧v'.closedB=true:=by
 obtain ⟨hc,he⟩:=condS he;simp only [Option.some.injEq,Prod.mk.injEq] at he;obtain ⟨rfl,rfl⟩:=he;obtain rfl:=RV.vv_eq hc hx;exact ⟨H,GhV.refl _ _,hr,hc⟩
mutual
theorem ZeT:∀ (v:EV) (h:Tr EB) (v':EV) (h':Tr EB),Xd v h=some (v',h')→∀ (H:AH) (x:VV),HR P σ h H→RV σ v x→∃ H',GhV H x H' v'.vv∧HR P σ h' H'∧v'.closedB=true
 | .sl k o n c d,h,v',h',he,H,x,hr,hx=>by
   simp only [Xd] at he;split at he
   ·rename_i e cs hb;have hq:=condS he;clear he;obtain ⟨hc,he⟩:=hq;obtain ⟨hc1,hc2⟩:=cond3 hc;obtain rfl:=Zp0 hc1;split at he
    ·rename_i h1 hs;simp only [Option.some.injEq,Prod.mk.injEq] at he;obtain ⟨rfl,rfl⟩:=he;exact ZjV hr hx hb (.inl ⟨e,rfl⟩) hc2 hs
    ·cases he
   ·rename_i e s cs hb;have hq:=condS he;clear he;obtain ⟨hc,he⟩:=hq;obtain ⟨hc1,hc2⟩:=cond3 hc;obtain rfl:=Zp0 hc1;split at he
    ·rename_i h1 hs;simp only [Option.some.injEq,Prod.mk.injEq] at he;obtain ⟨rfl,rfl⟩:=he;exact ZjV hr hx hb (.inr ⟨e,s,rfl⟩) hc2 hs
    ·cases he
   ·cases he
 | .agg cs,h,v',h',he,H,x,hr,hx=>by
   simp only [Xd] at he;split at he
   ·rename_i cs' h1 hl;simp only [Option.some.injEq,Prod.mk.injEq] at he;obtain ⟨rfl,rfl⟩:=he;obtain ⟨ys,rfl,hys⟩:=hx;obtain ⟨H',g1,g2,g3⟩:=Zb6 cs h cs' h1 hl H ys hr hys;exact ⟨H',GhV.agg g1,g2,g3⟩
   ·cases he
 | .tuple cs,h,v',h',he,H,x,hr,hx=>by
   simp only [Xd] at he;split at he
   ·rename_i cs' h1 hl;simp only [Option.some.injEq,Prod.mk.injEq] at he;obtain ⟨rfl,rfl⟩:=he;obtain ⟨ys,rfl,hys⟩:=hx;obtain ⟨H',g1,g2,g3⟩:=Zb6 cs h cs' h1 hl H ys hr hys;exact ⟨H',GhV.tuple g1,g2,g3⟩
   ·cases he
 | .lit v,h,v',h',he,H,x,hr,hx=>XU (by simpa only [Xd] using he) hr hx
 | .isl ex n cs,h,v',h',he,H,x,hr,hx=>XU (by simpa only [Xd] using he) hr hx
 | .iptr cs,h,v',h',he,H,x,hr,hx=>XU (by simpa only [Xd] using he) hr hx
 | .func f a b,h,v',h',he,H,x,hr,hx=>XU (by simpa only [Xd] using he) hr hx
 | .iface t y,h,v',h',he,H,x,hr,hx=>XU (by simpa only [Xd] using he) hr hx
 | .ptr k o,h,v',h',he,H,x,hr,hx=>XU (by simpa only [Xd] using he) hr hx
 | .es k o d lo s,h,v',h',he,H,x,hr,hx=>XU (by simpa only [Xd] using he) hr hx
 | .map k,h,v',h',he,H,x,hr,hx=>XU (by simpa only [Xd] using he) hr hx
 | .yield k,h,v',h',he,H,x,hr,hx=>XU (by simpa only [Xd] using he) hr hx
theorem Zb6:∀ (v:List EV) (h:Tr EB) (v':List EV) (h':Tr EB),ZbK v h=some (v',h')→∀ (H:AH) (x:List VV),HR P σ h H→RVL σ v x→∃ H',GhL H x H' (vvL v')∧HR P σ h' H'∧XC v'=true
 | [],h,v',h',he,H,x,hr,hx=>by
   simp only [ZbK,Option.some.injEq,Prod.mk.injEq] at he;obtain ⟨rfl,rfl⟩:=he;simp only [RVL] at hx;subst hx;exact ⟨H,GhL.nil H,hr,rfl⟩
 | v::vs,h,v',h',he,H,x,hr,hx=>by
   simp only [ZbK] at he;split at he
   ·rename_i u h1 hu;split at he
    ·rename_i us h2 hus;simp only [Option.some.injEq,Prod.mk.injEq] at he;obtain ⟨rfl,rfl⟩:=he;obtain ⟨y,ys,rfl,hy,hys⟩:=hx;obtain ⟨H1,g1,g2,g3⟩:=ZeT v h u h1 hu H y hr hy;obtain ⟨H2,f1,f2,f3⟩:=Zb6 vs h1 us h2 hus H1 ys g2 hys;exact ⟨H2,GhL.cons g1 f1,f2,by simp only [XC,g3,f3,cond_true]⟩
    ·cases he
   ·cases he
end
theorem JI {v v':EV} {h h':Tr EB} (he:cond v.closedB (some (v,h)) none=some (v',h')):v'.closedB=true:=by
 obtain ⟨hc,he⟩:=condS he;simp only [Option.some.injEq,Prod.mk.injEq] at he;obtain ⟨rfl,rfl⟩:=he;exact hc
mutual
theorem Zdn:∀ (v:EV) (h:Tr EB) (v':EV) (h':Tr EB),Xd v h=some (v',h')→v'.closedB=true
 | .sl k o n c d,h,v',h',he=>by
   simp only [Xd] at he;split at he
   ·have hq:=condS he;clear he;obtain ⟨hc,he⟩:=hq;split at he
    ·simp only [Option.some.injEq,Prod.mk.injEq] at he;obtain ⟨rfl,rfl⟩:=he;exact (cond3 hc).2
    ·cases he
   ·have hq:=condS he;clear he;obtain ⟨hc,he⟩:=hq;split at he
    ·simp only [Option.some.injEq,Prod.mk.injEq] at he;obtain ⟨rfl,rfl⟩:=he;exact (cond3 hc).2
    ·cases he
   ·cases he
 | .agg cs,h,v',h',he=>by
   simp only [Xd] at he;split at he
   ·rename_i cs' h1 hl;simp only [Option.some.injEq,Prod.mk.injEq] at he;obtain ⟨rfl,rfl⟩:=he;exact Zbe cs h cs' h1 hl
   ·cases he
 | .tuple cs,h,v',h',he=>by
   simp only [Xd] at he;split at he
   ·rename_i cs' h1 hl;simp only [Option.some.injEq,Prod.mk.injEq] at he;obtain ⟨rfl,rfl⟩:=he;exact Zbe cs h cs' h1 hl
   ·cases he
 | .lit v,h,v',h',he=>JI (by simpa only [Xd] using he)
 | .isl ex n cs,h,v',h',he=>JI (by simpa only [Xd] using he)
 | .iptr cs,h,v',h',he=>JI (by simpa only [Xd] using he)
 | .func f a b,h,v',h',he=>JI (by simpa only [Xd] using he)
 | .iface t y,h,v',h',he=>JI (by simpa only [Xd] using he)
 | .ptr k o,h,v',h',he=>JI (by simpa only [Xd] using he)
 | .es k o d lo s,h,v',h',he=>JI (by simpa only [Xd] using he)
 | .map k,h,v',h',he=>JI (by simpa only [Xd] using he)
 | .yield k,h,v',h',he=>JI (by simpa only [Xd] using he)
theorem Zbe:∀ (v:List EV) (h:Tr EB) (v':List EV) (h':Tr EB),ZbK v h=some (v',h')→XC v'=true
 | [],h,v',h',he=>by
   simp only [ZbK,Option.some.injEq,Prod.mk.injEq] at he;obtain ⟨rfl,rfl⟩:=he;rfl
 | v::vs,h,v',h',he=>by
   simp only [ZbK] at he;split at he
   ·rename_i u h1 hu;split at he
    ·rename_i us h2 hus;simp only [Option.some.injEq,Prod.mk.injEq] at he;obtain ⟨rfl,rfl⟩:=he;simp only [XC,Zdn v h u h1 hu,Zbe vs h1 us h2 hus,cond_true]
    ·cases he
   ·cases he
end
end
end Go.PV
end
