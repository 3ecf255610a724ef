/- Part 7 of 11 of what the proof of Runs needs. -/
import Derived.Test.YtglpmlbbaedbiaaGreatRuns6
import Derived.Test.YtglpmlbbaedbiaaGreatRuns5
set_option linter.unusedVariables false
set_option linter.unusedSimpArgs false
set_option linter.defProp false
section
open Go.PV.AH renaming del_ne→Zqf,set_none→ZpO,set_same→ZpP,ne_of→ZpK
open Go.PV.GhL renaming cons→ZpZ
open Go.PV.GhV renaming forget→Zqq,refl→Zp8
open Go.PV.Hold renaming mk→ZpM
open Go.PV.PureF renaming use→ZpQ
open Go.PV.SubH renaming refl→ZpN,of_set→ZpS,new→ZpR,none→Zqp
open List renaming drop→ZpL,drop_eq_getElem_cons→Zql,getElem_mem→ZpW
open Nat renaming reduceEqDiff→ZpI,reduceLT→ZpJ,reduceAdd→ZpT,reduceLeDiff→Zp1
open Option renaming bind_some→Zqg,map_some→Zp6
set_option maxRecDepth 20000
set_option maxHeartbeats 4000000
namespace Go.PV.YtglpmlbbaedbiaaGreat
open Go Go.Proofs
theorem GhV.ptrN {H H0:AH} {r:Nat} {e:TypeId} {cs:List VV} {sp:Nat} (hr:H r=some (.cells e cs sp)) (hn:H0 r=none) (hs:SubH H0 H):GhV H (ptrV r 0) H0 (.iptr cs):=by
 refine (GhV.ptr hr).trans (Zqq (fun i b hb=>?_) _);have hne:i ≠ r:=fun h=>by rw [h,hn] at hb; cases hb
 rw [Zqf _ hne];exact hs i b hb
def stopE (c:Int):List PanicEntry:=[{ v:=.iface 89 (.agg #[.int .i64 c]),recovered:=false }]
theorem ZbJ:Jx Tryz.prog 89=true:=by kernel_rfl
def mC (m1 m2:Nat) (fu c d:Int):List VV:=[.lit (.map (some m1)),.lit (.map (some m2)),iV fu,iV c,iV d]
abbrev mB (m1 m2:Nat) (fu c d:Int):Blk:=.cells 93 (mC m1 m2 fu c d) 0
theorem ZhR {fs:List Fu} {p:Pr} {us:List Val} {r m1 m2:Nat} {fu c d:Int} {H:AH} {K:VE→AH→Prop} (hl:us.length≤1099511627776) (hu:YP p us) (hm:H r=some (mB m1 m2 fu c d)) (hc:0≤c∧c≤1099511627776)
 (h1:∀ c',cntV fu c d us=.ok c'→c'=c+1→K (.ret (.tuple [])) (H.set r (mB m1 m2 fu c' d))) (h2:∀ k c',cntV fu c d us=.error k→K (.pan (stopE k)) (H.set r (mB m1 m2 fu c' d))):ZT Tryz.prog 82 [ptrV r 0,vsV fs us] H K:=by
 have ht:=total_ok fs hl hu;have hw:IntKind.i64.wrap (c+1)=c+1:=ZK (by omega) (by omega);have hself:H.set r (mB m1 m2 fu c d)=H:=by funext i; simp only [AH.set]; split<;>simp_all
 refine ZE fd82 (by simp) ?_;delta c82 Za Zo Zr Zm Zc Zq Zd Zb Zn Zg;unfold cntV at h1 h2;unfold mB mC at hm;replace hself:=ZpM hself;generalize IntKind.i64.wrap (Wc us)=n at *
 by_cases hn:5000<n
 ·have hk:=h2 7 c (if_pos hn);rw [hself.out] at hk;clear h1 h2;replace hk:=ZpM hk
  (repeat' (first | (simp only [↓Zz,ZA,Xc,ptrV,ZpI,ZpJ,ZD,ZM,fillV,setAt,undef,ZM,Xc,ZbJ,Zeq,ZfF, *]) | (refine ZpQ (ht) ?_)))
  show YI Tryz.prog [] K (.panic (stopE 7)) _ _;exact ⟨rfl,_,ZpN _,hk.out⟩
 ·by_cases he:c=fu
  ·have hk:=h2 8 c (by rw [if_neg hn,if_pos he]);rw [hself.out] at hk;clear h1 h2;replace hk:=ZpM hk
   (repeat' (first | (simp only [↓Zz,ZA,vcNil,Xc,ptrV,ZpI,ZpJ,reduceCtorEq,ZD,ZM,fillV,setAt,ZpL,undef,ZM,Xc,ZbJ,ZfR,Zii,ZQ,Zeq,ZfF, *]) | (refine ZJ mixed (fun _ _ _ _ e h=>⟨e.trans h.1,h.2⟩) _ (ZpN _) ?_) | (refine ZpQ (ht) ?_)))
   show YI Tryz.prog [] K (.panic (stopE 8)) _ _;exact ⟨rfl,_,ZpN _,hk.out⟩
  ·by_cases hd:2000≤d
   ·have hk:=h2 6 (c+1) (by rw [if_neg hn,if_neg he,if_pos hd]);clear h1 h2;replace hk:=ZpM hk
    (repeat' (first | (simp only [↓Zz,ZA,vcNil,Xc,ptrV,ZpI,ZpJ,ZpT,Zp1,reduceCtorEq,ZD,ZM,fillV,setAt,ZpL,undef,ZM,Xc,ZbJ,ZfR,Zii,ZfW,ZQ,Zbw,Zeq,ZfF, *]) | (refine ZJ mixed (fun _ _ _ _ e h=>⟨e.trans h.1,h.2⟩) _ (ZpN _) ?_) | (refine ZpQ (ht) ?_)))
    show YI Tryz.prog [] K (.panic (stopE 6)) _ _;exact ⟨rfl,_,ZpN _,hk.out⟩
   ·have hk:=h1 (c+1) (by rw [if_neg hn,if_neg he,if_neg hd]) rfl;clear h1 h2;replace hk:=ZpM hk
    (repeat' (first | (simp only [↓Zz,ZA,vcNil,ptrV,ZpI,ZpJ,ZpT,Zp1,reduceCtorEq,ZD,setAt,ZpL,undef,ZfR,Zii,ZfW,ZQ,Zbw,ZfF, *]) | (refine ZJ mixed (fun _ _ _ _ e h=>⟨e.trans h.1,h.2⟩) _ (ZpN _) ?_) | (refine ZpQ (ht) ?_)))
    exact ⟨rfl,_,_,_,rfl,.refl _ _,hk.out⟩
abbrev envV (fs:List Fu) (e:Env):VV:=envC fs e.2 e.1
def mtR (fs:List Fu) (x:Env × Bool):VV:=.tuple [envV fs x.1,boolV x.2]
theorem JU (fs:List Fu) (vs:List Val) (ns:List ByteArray):(envC fs vs ns).cells=[envC fs vs ns]∧VV.one (envC fs vs ns)=true:=by rw [Zgg]; exact ZhQ fs _
theorem as_b {y:VV} {H:AH} {K:VE→AH→Prop}:XV Tryz.prog (.iface 142 y) 142 true H K=K (.ret (.tuple [y,boolV true])) H:=propext ⟨fun h=>h.2,fun h=>⟨by kernel_rfl,h⟩⟩
theorem asN {t u:TypeId} {y:VV} {z:Value} {H:AH} {K:VE→AH→Prop} (hn:Jx Tryz.prog t=true) (hz:zeroV Tryz.prog t=some z) (hne:¬ u=t):XV Tryz.prog (.iface u y) t true H K=K (.ret (.tuple [.lit z,boolV false])) H:=by
 unfold XV;simp only [if_neg hne,hn,hz,true_and,okV,if_true]
theorem as_bc {y:VV} {H:AH} {K:VE→AH→Prop}:XV Tryz.prog (.iface 136 y) 142 true H K=K (.ret (.tuple [.lit (.agg #[(.string ⟨#[]⟩),(.slice none 0 0)]),boolV false])) H:=asN (by kernel_rfl) (by kernel_rfl) (by decide)
theorem ZpE {y:VV} {H:AH} {K:VE→AH→Prop}:XV Tryz.prog (.iface 139 y) 142 true H K=K (.ret (.tuple [.lit (.agg #[(.string ⟨#[]⟩),(.slice none 0 0)]),boolV false])) H:=asN (by kernel_rfl) (by kernel_rfl) (by decide)
theorem zc_b:VV.cells (.lit (.agg #[(.string ⟨#[]⟩),(.slice none 0 0)]))=[.lit (.string ⟨#[]⟩),.lit (.slice none 0 0)]:=rfl
theorem Pa.mtV_eq (k:Pa) (v:Val) (e:Env):k.mtV v e=if k.con=true then (match v with
 | .built m us=>if m=k.name∧us.length=k.kids.length then Wd k.kids us e else (e,false)
 | _=>(e,false)) else ((k.name::e.1,v::e.2),true):=by cases k; cases v<;>rw [Pa.mtV]<;>first | rfl | (intro m us h; cases h)
theorem ZgM {ps:List Pa} {us:List Val} {e:Env} {i:Nat} (h:i<ps.length) (h':i<us.length):Wd (ps.drop i) (us.drop i) e=if (ps[i].mtV us[i] e).2=true then Wd (ps.drop (i+1)) (us.drop (i+1)) (ps[i].mtV us[i] e).1 else ((ps[i].mtV us[i] e).1,false):=by
 rw [Zql h,Zql h',Wd]
theorem Zhd {fs:List Fu} {x:Env × Bool} {H0 H:AH} {t:Nat→VV} (h6:t 6=envV fs x.1) (h7:t 7=boolV x.2) (hs:SubH H0 H):YI Tryz.prog [.tmp 6,.tmp 7] (fun e H'=>∃ y,e=.ret y∧GhV H' y H0 (mtR fs x)) .ret ⟨t,[]⟩ H :=
 Yo rfl (by simp only [resV,YY,YX,h6,h7,Zqg,Zp6,tupV]<;>rfl) ⟨_,rfl,Zqq hs _⟩
theorem ZmD (fs:List Fu) (p:Pr):∀ (n:Nat) (k:Pa) (v:Val) (e:Env),k.sz<n→k.sz≤1099511627776→v.ok p→PureF Tryz.prog 83 [paV k,v.vv fs,envV fs e] (mtR fs (k.mtV v e)):=by
 intro n
 induction n with
 | zero=>intro k v e h; omega
 | succ n ih =>
   intro k v e h0 hs hv;have z1:=k.sz_eq;have hkl:=XY k.kids;obtain ⟨e1,e2⟩:=JU fs e.2 e.1;obtain ⟨w1,w2⟩:=WU fs v;refine JN.pure fun H0=>?_
   refine ZE fd83 (by simp) ?_;delta c83 Zj Zq Zd Zb Zr Za Zc Zh Zi Zg Zp Ze;rw [k.mtV_eq];by_cases hc:k.con=true
   ·rw [if_pos hc];cases v with
    | clo x b ns vs =>
      rw [Zhc] at w1 w2 ⊢
      (repeat' (first | (simp only [↓Zz,ZA,ZI,ptrV,boolV,ZpI,ZpJ,ZpT,ZN,ZD,setAt,ZpL,undef,as_bc,zc_b,ZaY,Zat,Zbv,JD, *]) | (refine ZB fun zr zh=>?_; have zg:=zh; (try simp only [ZpO] at zg))))
      all_goals exact Zhd (by simp only [ZC,ZpI,if_true,if_false, *]<;>rfl) (by simp only [ZC,ZpI,if_true,if_false, *]<;>rfl) (by repeat (first | assumption | exact ZpN _ | refine ZpS ?_ (by simp only [*])))
    | part j us =>
      rw [Zc7] at w1 w2 ⊢
      (repeat' (first | (simp only [↓Zz,ZA,ZI,ptrV,boolV,ZpI,ZpJ,ZpT,ZN,ZD,setAt,ZpL,undef,ZpE,zc_b,ZaY,Zat,Zbv,JD, *]) | (refine ZB fun zr zh=>?_; have zg:=zh; (try simp only [ZpO] at zg))))
      all_goals exact Zhd (by simp only [ZC,ZpI,if_true,if_false, *]<;>rfl) (by simp only [ZC,ZpI,if_true,if_false, *]<;>rfl) (by repeat (first | assumption | exact ZpN _ | refine ZpS ?_ (by simp only [*])))
    | built m us =>
      rw [Zcz] at w1 w2 ⊢;obtain ⟨hul,hu⟩:=hv;by_cases hm:m=k.name
      ·by_cases hk:us.length=k.kids.length
       ·dsimp only;rw [if_pos ⟨hm,hk⟩];obtain ⟨R,hR⟩:∃ R,R=Wd k.kids us e:=⟨_,rfl⟩
        rw [← hR];replace hR:=ZpM hR;have ih':∀ i (h:i<k.kids.length) (h':i<us.length) (e:Env),PureF Tryz.prog 83 [paV k.kids[i],us[i].vv fs,envV fs e] (mtR fs (k.kids[i].mtV us[i] e)):=fun i h h' e=>ih _ _ e (by have:=Xm (ZpW h); omega) (by have:=Xm (ZpW h); omega) (Xt.1 hu _ (ZpW h'))
        clear ih hu;have hkN:k.kids.length≤1099511627776:=by omega
        clear hs z1 hkl h0
        (repeat' (first | (simp only [↓Zz,ZA,↓XE,ZI,ptrV,intV,boolV,ZpI,ZpJ,ZpT,reduceCtorEq,ZD,setAt,ZpL,undef,as_b,ZaK,ZaY,JA,ZdV,JR,JK,Zat,ZW,ZaD,Zbv,JD,WK,YJ, *]) | (refine ZB fun zr zh=>?_; have zg:=zh; (try simp only [ZpO] at zg))))
        rename_i r1 n1 n1';have z2:=zg.2
        refine ZP (fun _ _ _ h=>h) (fun A H'=>(SubH H0 H'∧H' zr=some (.cells 142 [sV k.name,vsV fs us] 0))∧A.d=[]∧A.t 8=ptrV zr 0∧A.t 46=encS paE k.kids∧A.t 47=iV k.kids.length∧∃ (i:Nat) (m:Env),i≤k.kids.length∧A.t 48=iV i∧A.t 2=envV fs m∧R=Wd (k.kids.drop i) (us.drop i) m)
         (fun A _=>match A.t 48 with | .lit (.int _ i)=>((k.kids.length:Int)-i).toNat | _=>0) ?_ ?_
        ·exact ⟨⟨(ZpR n1).of_set z2,ZpP _ _ _⟩,rfl,(by simp only [ZC,ZpI,if_true,if_false, *]<;>rfl),(by simp only [ZC,ZpI,if_true,if_false, *]<;>rfl),(by simp only [ZC,ZpI,if_true,if_false, *]<;>rfl),0,e,by omega,(by simp only [ZC,ZpI,if_true,if_false, *]<;>rfl),(by simp only [ZC,ZpI,if_false, *]<;>rfl),hR.out⟩
        ·clear hR e1 e2 w1 w2;rintro ⟨t,d⟩ H' ⟨⟨hs0,q8⟩,rfl,h8,h46,h47,i,m,hi,h48,h2,hR⟩;dsimp only at h8 h46 h47 h48 h2;generalize zr=r8 at *
         clear n1' zg zh z2 n1;delta b83_1 Zn Zr Za Zk Zb Zi Zc Zg Zd Zo Zh Zq Zm;by_cases hlt:i<k.kids.length
         ·have hlt':i<us.length:=by omega
          rw [ZgM hlt hlt'] at hR;have hil:(i:Int)<(k.kids.length:Int):=by omega
          have hil':(i:Int)<(us.length:Int):=by omega
          have hcl:=ih' i hlt hlt' m;have hd1:=ZdG (fs:=fs) hlt';obtain ⟨w1,w2⟩:=WU fs us[i];generalize k.kids[i].mtV us[i] m=r at *
          obtain ⟨m',b'⟩:=r;obtain ⟨e1,e2⟩:=JU fs m'.2 m'.1;obtain ⟨e3,e4⟩:=JU fs m.2 m.1;clear ih' hm hk hc;unfold mtR at hcl;cases b' with
          | true =>
            replace hR:=ZpM hR
            (repeat' (first | (simp only [↓Zz,ZA,ZI,ptrV,boolV,ZpI,ZpJ,ZpT,setAt,ZpL,Wx,ZaK,WB,JK,Zbk,Zep,Jy,WK,YJ,Zmj, *]) | (refine ZJ mixed (fun _ _ _ _ e h=>⟨e.trans h.1,h.2⟩) _ (ZpN _) ?_) | (refine ZB fun zr zh=>?_; have zg:=zh; (try simp only [ZpO] at zg); (try have zn_q8:=ZpK q8 zh); (try have zn_q8:=ZpK q8 zg.2); (try have zn_q8:=ZpK q8 zg.2.2)) | (exact ZpN _) | (refine ZpS ?_ ?_) | (exact Zqp (by assumption) (by assumption)) | (refine ZpQ (hcl) ?_) | (with_reducible refine And.intro ?_ ?_)))
            all_goals rw [ZK (n:=(i:Int)+1) (by omega) (by omega)]
            ·exact ⟨i+1,m',by omega,rfl,rfl,by rw [hR.out]; rfl⟩
            ·omega
          | false =>
            have hR:R=(m',false):=by rw [hR]; rfl
            rw [hR];clear hR
            (repeat' (first | (simp only [↓Zz,ZA,ZI,ptrV,boolV,ZpI,ZpJ,ZpT,setAt,ZpL,Wx,ZaK,WB,JK,Zbk,Zep,Jy,WK,YJ,Zmj, *]) | (refine ZJ mixed (fun _ _ _ _ e h=>⟨e.trans h.1,h.2⟩) _ (ZpN _) ?_) | (refine ZB fun zr zh=>?_; have zg:=zh; (try simp only [ZpO] at zg); (try have zn_q8:=ZpK q8 zh); (try have zn_q8:=ZpK q8 zg.2); (try have zn_q8:=ZpK q8 zg.2.2)) | (exact ZpN _) | (refine ZpQ (hcl) ?_) | (with_reducible refine And.intro ?_ ?_)))
            all_goals exact Zhd (by simp only [ZC,ZpI,if_true,if_false, *]<;>rfl) (by simp only [ZC,ZpI,if_true,if_false, *]<;>rfl) (hs0.of_set (hs0.none zh))
         ·have hil:¬ (i:Int)<(k.kids.length:Int):=by omega
          rw [List.drop_of_length_le (by omega)] at hR;have hR:R=(m,true):=by rw [hR]; cases us.drop i<;>rfl
          rw [hR]
          (repeat' (first | (simp only [↓Zz,ZA,ptrV,ZpJ, *])))
          delta c83_1 Za Zc Zq
          (repeat' (first | (simp only [↓Zz,ZA,ZpI,ZpJ, *]) | (refine ZV rfl (fun _ _ _ h=>h) ?_)))
          all_goals exact Zhd (by simp only [ZC,ZpI,if_true,if_false, *]<;>rfl) (by simp only [ZC,ZpI,if_true,if_false, *]<;>rfl) hs0
       ·have hk':¬ (us.length:Int)=(k.kids.length:Int):=by omega
        dsimp only;rw [if_neg (fun h=>hk h.2)]
        (repeat' (first | (simp only [↓Zz,ZA,↓XE,ZI,ptrV,intV,boolV,ZpI,ZpJ,ZpT,reduceCtorEq,ZD,setAt,ZpL,undef,as_b,ZaK,ZaY,JA,ZdV,JR,JK,Zat,ZW,ZaD,Zbv,JD,WK,YJ, *]) | (refine ZB fun zr zh=>?_; have zg:=zh; (try simp only [ZpO] at zg))))
        all_goals exact Zhd (by simp only [ZC,ZpI,if_true,if_false, *]<;>rfl) (by simp only [ZC,ZpI,if_true,if_false, *]<;>rfl) (by repeat (first | assumption | exact ZpN _ | refine ZpS ?_ (by simp only [*])))
      ·dsimp only;rw [if_neg (fun h=>hm h.1)]
       (repeat' (first | (simp only [↓Zz,ZA,↓XE,ZI,ptrV,boolV,ZpI,ZpJ,ZpT,ZN,ZD,setAt,ZpL,undef,as_b,ZaY,JA,ZdV,Zat,ZW,Zbv,JD, *]) | (refine ZB fun zr zh=>?_; have zg:=zh; (try simp only [ZpO] at zg))))
       all_goals exact Zhd (by simp only [ZC,ZpI,if_true,if_false, *]<;>rfl) (by simp only [ZC,ZpI,if_true,if_false, *]<;>rfl) (by repeat (first | assumption | exact ZpN _ | refine ZpS ?_ (by simp only [*])))
   ·have hc':k.con=false:=by simpa using hc
    rw [if_neg hc]
    (repeat' (first | (simp only [↓Zz,ZA,ptrV,ZpI,ZpJ,ZpT,Zp1,ZD,ZM,fillV,setAt,ZpL,undef,ZM,ZaY,JA,Zat,ZW,Zkp, *]) | (refine ZB fun zr zh=>?_; have zg:=zh; (try simp only [ZpO] at zg))))
    rename_i r1 n1 n1';refine Yo rfl (x:=.tuple [ptrV zr 0,boolV true]) (by simp only [resV,YY,YX,ZC,ZpI,if_true,if_false,Zqg,Zp6,tupV]<;>rfl) ⟨_,rfl,?_⟩;refine GhV.tuple (ZpZ ?_ (ZpZ (Zp8 _ _) (GhL.nil _)));show GhV _ _ _ (.iptr [sV k.name,v.vv fs,envV fs e]);exact GhV.ptrN (ZpP _ _ _) zg.2 ((ZpR n1).of_set zg.2)
end Go.PV.YtglpmlbbaedbiaaGreat
end
section
open List renaming getElem_mem→ZpW,getElem?_eq_getElem→ZqC,length_append→Zqt,length_take→ZqI,length_drop→ZqO
namespace Go.PV.YtglpmlbbaedbiaaGreat
open Go Go.Proofs
def EnvOk (p:Pr) (e:Env):Prop:=e.1.length=e.2.length∧YP p e.2
mutual
theorem Pa.mtV_ok {p:Pr}:∀ (k:Pa) (v:Val) (e:Env),v.ok p→EnvOk p e→EnvOk p (k.mtV v e).1∧((k.mtV v e).2=true→(k.mtV v e).1.1=k.names.reverse++e.1)
 | .mk con n ks,v,e,hv,he=>by
   obtain ⟨X,hX⟩:∃ X,X=(Pa.mk con n ks).mtV v e:=⟨_,rfl⟩
   rw [← hX];rw [Pa.mtV_eq] at hX;cases con with
   | true =>
     rw [if_pos (show (Pa.mk true n ks).con=true from rfl)] at hX;have hN:(Pa.mk true n ks).names=ZY ks:=by simp [Pa.names]
     rw [hN];cases v with
     | built m us =>
       by_cases h:m=(Pa.mk true n ks).name∧us.length=(Pa.mk true n ks).kids.length
       ·rw [show X=Wd ks us e from hX.trans (if_pos h)];exact Zeb ks us e h.2 hv.2 he
       ·rw [show X=(e,false) from hX.trans (if_neg h)]; exact ⟨he,fun h=>by cases h⟩
     | clo x b ns vs=>rw [hX]; exact ⟨he,fun h=>by cases h⟩
     | part j us=>rw [hX]; exact ⟨he,fun h=>by cases h⟩
   | false =>
     rw [if_neg (show ¬ (Pa.mk false n ks).con=true from fun h=>by cases h)] at hX;have hN:(Pa.mk false n ks).names=[n]:=by simp [Pa.names]
     rw [show X=((n::e.1,v::e.2),true) from hX,hN];exact ⟨⟨by simpa using he.1,hv,he.2⟩,fun _=>rfl⟩
theorem Zeb {p:Pr}:∀ (ks:List Pa) (us:List Val) (e:Env),us.length=ks.length→YP p us→EnvOk p e→EnvOk p (Wd ks us e).1∧((Wd ks us e).2=true→(Wd ks us e).1.1=(ZY ks).reverse++e.1)
 | [],[],e,hl,hu,he=>by rw [Wd.eq_2 _ _ _ (fun _ _ _ _ h=>by cases h)]; exact ⟨he,fun _=>by simp [ZY]⟩
 | [],u::us,e,hl,hu,he=>by simp at hl
 | k::ks,[],e,hl,hu,he=>by simp at hl
 | k::ks,u::us,e,hl,hu,he=>by
   obtain ⟨h1,h2⟩:=Pa.mtV_ok k u e hu.1 he;rw [Wd];split
   ·rename_i h;obtain ⟨h3,h4⟩:=Zeb ks us (k.mtV u e).1 (by simpa using hl) hu.2 h1;refine ⟨h3,fun hb=>?_⟩;rw [h4 hb,h2 h,ZY];simp
   ·exact ⟨h1,fun h=>by cases h⟩
end
structure PgR (p:Pr):Prop where
 nd:NdP p
 nf:p.funs.length≤1099511627776
 ar:∀ f∈p.funs,0≤f.arity∧f.arity≤10
 cls:∀ f∈p.funs,f.cls.length≤1099511627776∧∀ c∈f.cls,(c.pats.length:Int)=f.arity∧pasSz c.pats≤1099511627776∧c.body.sdF p (ZY c.pats)=0∧c.body.sz≤1000∧c.body.nmOk
theorem Zit {p:Pr} (h:Jv p=0) (hp:PrOk p):PgR p:=⟨Zip h,hp.funs,fun f hf=>by
 obtain ⟨_,_,h3,_⟩:=ZcY h;obtain ⟨k,hk,rfl⟩:=List.getElem_of_mem hf;have h4:=h3 k hk;unfold Zbs at h4
 repeat' split at h4
 all_goals first
  | (exact absurd h4 (by decide))
  | omega,fun f hf=>⟨(hp.cls f hf).1,fun c hc=>by
 obtain ⟨_,_,_,h4⟩:=ZcY h;have h5:=(ZhO (Zb3 h4 f hf c hc)).1;obtain ⟨b1,b2,b3⟩:=(check_bd h hp f hf).body c hc;exact ⟨h5,((hp.cls f hf).2 c hc).pats,b1,b2,b3⟩⟩⟩
structure Zb4 (p:Pr) (fu c:Int) (e:Ex) (ns:List ByteArray) (vs:List Val):Prop where
 sd:e.sdF p ns=0
 nm:e.nmOk
 sz:e.sz≤5000
 env:EnvOk p (ns,vs)
 c0:0≤c
 cf:c≤fu
theorem Zgy {p:Pr} {us:List Val} (hu:YP p us):∀ {cs:List Cl} {b:Ex} {e:Env},(∀ c∈cs,us.length=c.pats.length)→WM cs us=some (b,e)→∃ c∈cs,b=c.body∧EnvOk p e∧e.1=(ZY c.pats).reverse
 | [],b,e,_,h=>by cases h
 | c::cs,b,e,hl,h=>by
   obtain ⟨h1,h2⟩:=Zeb c.pats us ([],[]) (hl c (by simp)) hu ⟨rfl,trivial⟩;rw [WM] at h;split at h
   ·rename_i hb;cases h;exact ⟨c,by simp,rfl,h1,by simpa using h2 hb⟩
   ·obtain ⟨c',hc',h3⟩:=Zgy hu (fun c hc=>hl c (by simp [hc])) h;exact ⟨c',by simp [hc'],h3⟩
theorem Zb8 {fu c d:Int} {us:List Val} {c1:Int} (h:cntV fu c d us=.ok c1):c1=c+1∧¬ c=fu∧d<2000:=by
 unfold cntV at h;split at h
 ·cases h
 ·split at h
  ·cases h
  ·split at h
   ·cases h
   ·cases h; exact ⟨rfl,by assumption,by omega⟩
abbrev ZeG (p:Pr) (fu:Int) (ev:EvF):Prop:=∀ c d e ns vs c' v,Zb4 p fu c e ns vs→ev c d e ns vs=.ok (c',v)→v.ok p∧c≤c'∧c'≤fu
theorem ZjF {p:Pr} (hp:PgR p) {fu c d:Int} {j:Nat} {us:List Val} (hu:YP p us) {f:Fu} (hf:p.funs[j]?=some f) (hl:(us.length:Int)=f.arity) (hc:0≤c∧c≤fu) {c1:Int} (hk:cntV fu c d us=.ok c1) {b:Ex} {e:Env} (hb:WM f.cls us=some (b,e)):Zb4 p fu c1 b e.1 e.2∧b.sz≤1000:=by
 obtain ⟨k1,k2,k3⟩:=Zb8 hk;obtain ⟨_,hcl⟩:=hp.cls f (List.mem_of_getElem? hf);obtain ⟨cl,hm,rfl,h1,h2⟩:=Zgy hu (fun c hc=>by have:=(hcl c hc).1; omega) hb;obtain ⟨_,_,h3,h4,h5⟩:=hcl cl hm;exact ⟨⟨Zkx _ _ _ h3 (fun n hn=>by rw [h2]; simpa using hn),h5,by omega,h1,by omega,by omega⟩,h4⟩
theorem ZdH {p:Pr} (hp:PgR p) {fu:Int} {ev:EvF} (he:ZeG p fu ev) {c d:Int} {j:Nat} {us:List Val} (hu:YP p us) (hl:(us.length:Int)=arAt p j) (hc:0≤c∧c≤fu) {c':Int} {v:Val} (h:callG p fu ev c d j us=.ok (c',v)):v.ok p∧c<c'∧c'≤fu:=by
 unfold callG at h;split at h
 ·cases h
 ·rename_i c1 hk;split at h
  ·rename_i f hf;split at h
   ·cases h
   ·rename_i b e hb;have hg:=ZjF hp hu hf (by unfold arAt at hl; rw [hf] at hl; exact hl) hc hk hb;obtain ⟨h1,h2,h3⟩:=he _ _ _ _ _ _ _ hg.1 h
    have:=(Zb8 hk).1
    exact ⟨h1,by omega,h3⟩
  ·cases h
theorem Ziu {p:Pr} {fu c d:Int} {x:ByteArray} {b:Ex} {ns:List ByteArray} {vs:List Val} {a:Val} (hv:(Val.clo x b ns vs).ok p) (ha:a.ok p) (hc:0≤c∧c≤fu) {c1:Int} (hk:cntV fu c d [a]=.ok c1):Zb4 p fu c1 b (x::ns) (a::vs):=by
 obtain ⟨k1,k2,k3⟩:=Zb8 hk;obtain ⟨⟨h1,h2,h3,h4,h5⟩,h6⟩:=hv;have h2:=(ZaI.1 h2).2 b (by simp [Ex.kids]);exact ⟨Zkx _ _ _ h2 (fun n hn=>by simpa [Ex.op,Ex.name,or_comm] using hn),h4,h3,⟨by simpa using h1,ha,h6⟩,by omega,by omega⟩
theorem Zaa {p:Pr} {l:List Val} (h:YP p l) (n:Nat):YP p (l.take n):=Xt.2 fun v hv=>Xt.1 h v (List.mem_of_mem_take hv)
theorem ZbU {p:Pr} {l:List Val} (h:YP p l) (n:Nat):YP p (l.drop n):=Xt.2 fun v hv=>Xt.1 h v (List.mem_of_mem_drop hv)
theorem Zky {p:Pr} (hp:PgR p) {fu:Int} {ev:EvF} (he:ZeG p fu ev) {d:Int}:∀ (n:Nat) (c:Int) (v:Val) (us:List Val) (c':Int) (w:Val),v.ok p→YP p us→us.length≤1099511627776→0≤c∧c≤fu→appG p fu ev n c d v us=.ok (c',w)→w.ok p∧c≤c'∧c'≤fu
 | 0,c,v,us,c',w,hv,hu,hl,hc,h=>by
   rw [appG] at h;split at h
   ·cases h; exact ⟨hv,by omega,hc.2⟩
   ·cases h
 | n+1,c,v,[],c',w,hv,hu,hl,hc,h=>by
   rw [appG] at h;cases h; exact ⟨hv,by omega,hc.2⟩
 | n+1,c,v,a::us,c',w,hv,hu,hl,hc,h=>by
   cases v with
   | built m ks=>rw [appG] at h; cases h
   | clo x b ns vs =>
     rw [appG] at h;split at h
     ·cases h
     ·rename_i c1 hk;split at h
      ·cases h
      ·rename_i c2 w2 h2;obtain ⟨g1,g2,g3⟩:=he _ _ _ _ _ _ _ (Ziu hv hu.1 hc hk) h2
       have:=(Zb8 hk).1
       obtain ⟨g4,g5,g6⟩:=Zky hp he n c2 w2 us c' w g1 hu.2 (by simp at hl; omega) (by omega) h;exact ⟨g4,by omega,g6⟩
   | part j hs =>
     obtain ⟨⟨h1,h2,h3⟩,h4⟩:=hv
     change (hs.length:Int)<arAt p j at h3
     rw [appG] at h;split at h
     ·rename_i hlt;cases h;refine ⟨⟨⟨h1,?_,?_⟩,Jc.2 ⟨h4,hu⟩⟩,by omega,hc.2⟩
      ·have hj:=hp.ar _ (ZpW h1)
       have:arAt p j=p.funs[j].arity:=by unfold arAt; rw [ZqC h1]
       rw [Zqt]; omega
      ·change (((hs++a::us).length:Nat):Int)<arAt p j
       rw [Zqt]; omega
     ·rename_i hlt;split at h
      ·cases h
      ·rename_i c2 w2 h5;have hz:(((a::us).take (arAt p j-hs.length).toNat).length:Int)=arAt p j-hs.length:=by rw [ZqI]; omega
       obtain ⟨g1,g2,g3⟩:=ZdH hp he (Jc.2 ⟨h4,Zaa hu _⟩) (by rw [Zqt]; omega) hc h5;obtain ⟨g4,g5,g6⟩:=Zky hp he n c2 w2 _ c' w g1 (ZbU hu _) (by rw [ZqO]; omega) (by omega) h;exact ⟨g4,by omega,g6⟩
theorem ZdI {p:Pr} {fu:Int} {ev:EvF} (he:ZeG p fu ev) {d:Int} {ns:List ByteArray} {vs:List Val} (hn:EnvOk p (ns,vs)):∀ (ks:List Ex) (c c':Int) (l:List Val),(∀ k∈ks,k.sdF p ns=0∧k.nmOk∧k.sz≤5000)→0≤c∧c≤fu→listG ev d ns vs c ks=.ok (c',l)→YP p l∧l.length=ks.length∧c≤c'∧c'≤fu
 | [],c,c',l,hk,hc,h=>by rw [listG] at h; cases h; exact ⟨trivial,rfl,by omega,hc.2⟩
 | k::ks,c,c',l,hk,hc,h=>by
   rw [listG] at h;split at h
   ·cases h
   ·rename_i c1 v h1;split at h
    ·cases h
    ·rename_i c2 l' h2;cases h;obtain ⟨k1,k2,k3⟩:=hk k (by simp);obtain ⟨g1,g2,g3⟩:=he _ _ _ _ _ _ _ ⟨k1,k2,k3,hn,hc.1,hc.2⟩ h1;obtain ⟨g4,g5,g6,g7⟩:=ZdI he hn ks c1 _ l' (fun k hk'=>hk k (by simp [hk'])) (by omega) h2;exact ⟨⟨g1,g4⟩,by simp [g5],by omega,g7⟩
end Go.PV.YtglpmlbbaedbiaaGreat
end
section
open Go.PV.AH renaming set_same→ZpP,set_ne→ZpV,set_none→ZpO,ne_of→ZpK,set_set→Zqj
open Go.PV.GhL renaming cons→ZpZ
open Go.PV.GhV renaming refl→Zp8
open Go.PV.Hold renaming mk→ZpM
open Go.PV.SubH renaming new→ZpR,set→Zqk,refl→ZpN
open List renaming drop→ZpL,map_cons→Zp3,map_nil→Zqa,getD_cons_zero→ZqM,getD_cons_succ→Zqw,getD_nil→Zqx
open Nat renaming reduceEqDiff→ZpI,reduceLT→ZpJ,reduceAdd→ZpT,succ_ne_self→Zp7
set_option maxRecDepth 20000
set_option maxHeartbeats 4000000
namespace Go.PV.YtglpmlbbaedbiaaGreat
open Go Go.Proofs
def MacAt (p:Pr) (m1 m2 r:Nat) (fu c d:Int) (H:AH):Prop:=H r=some (mB m1 m2 fu c d)∧TabAt H (.agg (tabE m1 m2)) p
theorem Zoi {H:AH} {m1 m2:Nat} {p:Pr} (h:TabAt H (.agg (tabE m1 m2)) p):H m1=some (fmB (funMk p.funs p.funs.length))∧H m2=some (cmB (conMk p.cons p.cons.length)):=by
 obtain ⟨a1,a2,ha,x1,x2⟩:=h;obtain ⟨rfl,rfl⟩:a1=m1∧a2=m2:=by simpa [tabE,eq_comm] using ha
 exact ⟨x1,x2⟩
theorem MacAt.set {p:Pr} {m1 m2 r:Nat} {fu c d c' d':Int} {H:AH} (h:MacAt p m1 m2 r fu c d H):MacAt p m1 m2 r fu c' d' (H.set r (mB m1 m2 fu c' d')):=by
 obtain ⟨h1,h2⟩:=h;obtain ⟨x1,x2⟩:=Zoi h2;exact ⟨ZpP _ _ _,m1,m2,rfl,by rw [ZpV _ _ (JY h1 x1).2]; exact x1,by rw [ZpV _ _ (JY h1 x2).2]; exact x2⟩
theorem MacAt.mono {p:Pr} {m1 m2 r:Nat} {fu c d:Int} {H H':AH} (h:MacAt p m1 m2 r fu c d H) (hs:SubH H H'):MacAt p m1 m2 r fu c d H':=⟨hs _ _ h.1,h.2.mono hs⟩
def McK (fs:List Fu) (m1 m2 r:Nat) (fu d:Int) (H:AH) (R:EvR) (e:VE) (H':AH):Prop :=
 (∃ c v,R=.ok (c,v)∧e=.ret (v.vv fs)∧H'=H.set r (mB m1 m2 fu c d))∨(∃ k c d',R=.error k∧e=.pan (stopE k)∧H'=H.set r (mB m1 m2 fu c d'))
theorem WD {P:Program} {f:FuncId} {xs:List VV} {H:AH} {K:VE→AH→Prop} (h:ZT P f xs H fun e H''=>∃ H',SubH H' H''∧K e H'):ZT P f xs H K:=fun S w args hs hx =>
 (h S w args hs hx).mono fun e w' hq=>by
   cases e with
   | returned v =>
     obtain ⟨S',H',y,h1,h2,h3,H2,h4,h5⟩:=hq;exact ⟨S',H2,y,h1.trans (h2.sub h4).2,(h2.sub h4).1,h3,h5⟩
   | panicked ch =>
     obtain ⟨S',H',h1,h2,H2,h4,h5⟩:=hq;exact ⟨S',H2,h1.trans (h2.sub h4).2,(h2.sub h4).1,h5⟩
   | outgrown=>exact hq
abbrev EvHyp (p:Pr) (m1 m2 r:Nat) (fu g:Int) (ev:EvF):Prop:=∀ c d e ns vs H,Zb4 p fu c e ns vs→(fu-c) * 5001+e.sz<g→0≤d→d≤2000→MacAt p m1 m2 r fu c d H→ZT Tryz.prog 26 [ptrV r 0,exV e,envC p.funs vs ns] H (McK p.funs m1 m2 r fu d H (ev c d e ns vs))
theorem ZlX:ZF Tryz.prog 123=true:=by kernel_rfl
theorem ZlY {H:AH} {m1 m2 r r3:Nat} {fu c d:Int} {u:FrameMode} {K:VE→FrameMode→AH→Prop} (h3:H r3=some (.cells 91 [ptrV r 0] 0)) (hm:H r=some (mB m1 m2 fu c d))
 (h:∀ x,K (.ret x) u (H.set r (mB m1 m2 fu c (IntKind.i64.wrap (d-1))))):Zbq Tryz.prog 123 [ptrV r3 0] u H K:=by
 refine Zj3 fd123 (by simp) ?_;delta c123 Zb Zq Zr Zd Zm Zg;unfold mB mC at hm
 (repeat' (first | (simp only [↓Zz,ZA,vcNil,ptrV,ZpI,ZpJ,ZpT,ZD,setAt,ZpL,undef,ZfW,ZfE,ZQ,Zbw, *])))
 exact ⟨rfl,_,_,_,rfl,.refl _ _,h _⟩
theorem ZjG {p:Pr} {m1 m2 r:Nat} {fu g:Int} {ev:EvF} (hev:EvHyp p m1 m2 r fu g ev) {c d:Int} {e:Ex} {ns:List ByteArray} {vs:List Val} {H:AH} (hg:Zb4 p fu c e ns vs) (hms:(fu-c) * 5001+e.sz<g) (hd:0≤d) (hd2:d<2000) (hm:MacAt p m1 m2 r fu c d H) :
 ZT Tryz.prog 84 [ptrV r 0,exV e,envC p.funs vs ns] H (McK p.funs m1 m2 r fu d H (ev c (d+1) e ns vs)):=by
 refine WD ?_;refine ZaE fd84 (by simp) ?_;delta c84 Zj Zq Zb Zr Zd Zm Zg Za Zo Zc;have hw:IntKind.i64.wrap (d+1)=d+1:=ZK (by omega) (by omega);have hm1:=hm.1;unfold mB mC at hm1;have hcall:=fun H' h=>hev c (d+1) e ns vs H' hg hms (by omega) (by omega) h
 replace hm:=ZpM hm;clear hev hg;obtain ⟨e1,e2⟩:=JU p.funs vs ns
 (repeat' (first | (simp only [↓Zz,ZA,↓ZnV,vcNil,ptrV,ZpI,ZpJ,ZpT,ZD,setAt,ZpL,undef,ZfW,ZfE,ZQ,Zbw, *]) | (refine ZB fun zr zh=>?_; have zg:=zh; (try simp only [ZpO] at zg); (try have zn_hm1:=ZpK hm1 zh); (try have zn_hm1:=ZpK hm1 zg.2); (try have zn_hm1:=ZpK hm1 zg.2.2))))
 rename_i r3 n3 n3' q3;refine ⟨rfl,?_⟩;obtain ⟨H5,hH5⟩:∃ H5,H5=(((H.set r3 (.cells 91 [ptrV r 0] 0)).set zr (.cells 35 [iV e.op,sV e.name,encS exE e.kids] 0)).set r (mB m1 m2 fu c (d+1))):=⟨_,rfl⟩
 show vcL _ [] _ ⟨_,[{ target:=.fn (.func 123) #[.pointer (some ⟨r3,0,none⟩)],args:=#[] }]⟩ (((H.set r3 (.cells 91 [ptrV r 0] 0)).set zr (.cells 35 [iV e.op,sV e.name,encS exE e.kids] 0)).set r (mB m1 m2 fu c (d+1)));rw [← hH5];have hr3:¬ r=r3:=(ZpK hm1 n3).1;have hr4:¬ r=zr:=(ZpK hm1 zg.2).1;have hM:MacAt p m1 m2 r fu c (d+1) H5:=by rw [hH5]; exact (hm.out.mono ((ZpR n3).of_set zg.2)).set
 have k3:H5 r3=some (.cells 91 [ptrV r 0] 0):=by
  rw [hH5,ZpV _ _ (Ne.symm hr3),ZpV _ _ zg.1.2,ZpP]
 have k4:H5 zr=some (.cells 35 [iV e.op,sV e.name,encS exE e.kids] 0):=by
  rw [hH5,ZpV _ _ (Ne.symm hr4),ZpP]
 have hs0:∀ b,SubH (H.set r b) (H5.set r b):=fun b=>by
  rw [hH5,Zqj];exact Zqk ((ZpR n3).of_set zg.2) _ _
 have hc5:=hcall H5 hM;clear hcall hm hm1 n3 n3' zg zh q3 zn_hm1 hH5
 (repeat' (first | (refine hc5.mono ?_) | (simp only [↓Wg,↓XM,↓Xe,↓Yf,↓Yi,↓Yu,↓Yr,↓Ys,↓Yt,↓WZ,↓ZC,↓Xb,↓YA,↓XP,↓XF,ptrV,Zp3,Zqa,ZqM,Zqw,Zqx,ite_true,ite_false,ZpI,ZpJ,true_and,Zp7,eq_self,ZpL,Wi,XT,XG,XH,Xr,ZfE,YZ,Zpp, *])))
 have hs5:∀ b,(H5.set r b) r3=some (.cells 91 [ptrV r 0] 0):=fun b=>by rw [ZpV _ _ (Ne.symm hr3)]; exact k3
 rintro e' H' (⟨c',v,hR,rfl,rfl⟩ | ⟨k,c',d',hR,rfl,rfl⟩)
 ·have hw2:IntKind.i64.wrap (d+1-1)=d:=by rw [show d+1-1=d by omega]; exact ZK (by omega) (by omega)
  (repeat' (first | (simp only [↓Zz,ZA,ZpI,ZpJ, *])))
  refine ⟨by simp,ZlX,[ptrV r3 0],_,ZpZ (Zp8 _ _) (GhL.nil _),?_⟩;refine ZlY (hs5 _) (ZpP _ _ _) (fun x=>?_);rw [hw2,Zqj];exact ⟨v.vv p.funs,_,_,rfl,Zp8 _ _,_,hs0 _,.inl ⟨c',v,rfl,rfl,rfl⟩⟩
 ·(repeat' (first | (simp only [↓Zz, *])))
  refine ⟨by simp,ZlX,[ptrV r3 0],_,ZpZ (Zp8 _ _) (GhL.nil _),?_⟩;refine ZlY (hs5 _) (ZpP _ _ _) (fun x=>?_);rw [Zqj];refine ⟨_,ZpN _,H.set r (mB m1 m2 fu c' (IntKind.i64.wrap (d'-1))),hs0 _,.inr ⟨k,c',_,rfl,rfl,rfl⟩⟩
end Go.PV.YtglpmlbbaedbiaaGreat
end
section
open Go.PV.AH renaming set_none→ZpO,ne_of→ZpK,set_same→ZpP,set_ne→ZpV
open Go.PV.Hold renaming mk→ZpM
open Go.PV.PureF renaming use→ZpQ
open Go.PV.SubH renaming refl→ZpN,of_set→ZpS,none→Zqp,set→Zqk
open List renaming drop_eq_getElem_cons→Zql,getElem_mem→ZpW,drop→ZpL,drop_eq_nil_of_le→Zp9,map_cons→Zp3,map_nil→Zqa
open Nat renaming lt_succ_self→ZqK,reduceEqDiff→ZpI,reduceLT→ZpJ,reduceAdd→ZpT,succ_ne_self→Zp7,zero_add→Zp2
set_option maxRecDepth 20000
set_option maxHeartbeats 4000000
namespace Go.PV.YtglpmlbbaedbiaaGreat
open Go Go.Proofs
def clRes (ev:EvF) (c1 d:Int) (R:Option (Ex × Env)):EvR:=match R with | none=>.error 420 | some (b,e)=>ev c1 (d+1) b e.1 e.2
abbrev Zk2 (fs:List Fu) (m1 m2 r:Nat) (fu d:Int) (H:AH) (X:EvR):APost:=YI Tryz.prog [.tmp 6] fun e H''=>∃ H',SubH H' H''∧McK fs m1 m2 r fu d H X e H'
theorem Znt {fs:List Fu} {m1 m2 r:Nat} {fu k c d d':Int} {H H':AH} {t:Nat→VV} (hs:SubH (H.set r (mB m1 m2 fu c d')) H'):Zk2 fs m1 m2 r fu d H (.error k) (.panic (stopE k)) ⟨t,[]⟩ H' :=
 ⟨rfl,H',ZpN _,_,hs,.inr ⟨k,c,d',rfl,rfl,rfl⟩⟩
theorem Zli {cs:List Cl} {us:List Val} {i:Nat} (h:i<cs.length):WM (cs.drop i) us=if (Wd cs[i].pats us ([],[])).2=true then some (cs[i].body,(Wd cs[i].pats us ([],[])).1) else WM (cs.drop (i+1)) us:=by
 rw [Zql h,WM]
theorem Zo2 {p:Pr} (hp:PgR p) {m1 m2 r j:Nat} {fu g c1 d:Int} {ev:EvF} (hev:EvHyp p m1 m2 r fu g ev) {us:List Val} (hj:j<p.funs.length) (hul:us.length≤1099511627776) (hu:YP p us) (hl:(us.length:Int)=p.funs[j].arity) (hd:0≤d) (hd2:d<2000) (hc:0≤c1∧c1≤fu) (hms:(fu-c1) * 5001+1000<g) {H0 H:AH} (hm:MacAt p m1 m2 r fu c1 d H) (hHH:∀ b,H.set r b=H0.set r b) {t:Nat→VV}
 (h0:t 0=ptrV r 0) (h2:t 2=vsV p.funs us) (h20:t 20=clsV p.funs[j].cls) (h21:t 21=iV p.funs[j].cls.length) (h22:t 22=iV 0) :
 ACx ⟨Tryz.prog,56,none⟩ (.loop b49_2) (Xh 0 (thenA (ACx ⟨Tryz.prog,56,none⟩ c49_3 (Zk2 p.funs m1 m2 r fu d H0 (clRes ev c1 d (WM p.funs[j].cls us)))) (Zk2 p.funs m1 m2 r fu d H0 (clRes ev c1 d (WM p.funs[j].cls us))))) ⟨t,[]⟩ H:=by
 obtain ⟨hcN,hcl⟩:=hp.cls _ (ZpW hj);obtain ⟨R,hR⟩:∃ R,R=WM p.funs[j].cls us:=⟨_,rfl⟩
 rw [← hR];have hpl:∀ i (h:i<p.funs[j].cls.length),p.funs[j].cls[i].pats.length=us.length:=fun i h=>by have:=(hcl _ (ZpW h)).1; omega
 have hpz:∀ i (h:i<p.funs[j].cls.length),pasSz p.funs[j].cls[i].pats≤1099511627776:=fun i h=>(hcl _ (ZpW h)).2.1
 have hbody:∀ i (h:i<p.funs[j].cls.length) (m:Env),Wd p.funs[j].cls[i].pats us ([],[])=(m,true)→Zb4 p fu c1 p.funs[j].cls[i].body m.1 m.2∧p.funs[j].cls[i].body.sz≤1000:=fun i h m hm=>by
  obtain ⟨_,_,h3,h4,h5⟩:=hcl _ (ZpW h);obtain ⟨g1,g2⟩:=Zeb p.funs[j].cls[i].pats us ([],[]) (hpl i h).symm hu ⟨rfl,trivial⟩;rw [hm] at g1 g2;exact ⟨⟨Zkx _ _ _ h3 (fun n hn=>by rw [g2 rfl]; simpa using hn),h5,by omega,g1,hc.1,hc.2⟩,h4⟩
 have hmt:∀ i (h:i<p.funs[j].cls.length) k (h':k<p.funs[j].cls[i].pats.length) (h'':k<us.length) (e:Env),PureF Tryz.prog 83 [paV p.funs[j].cls[i].pats[k],us[k].vv p.funs,envV p.funs e] (mtR p.funs (p.funs[j].cls[i].pats[k].mtV us[k] e)):=fun i h k h' h'' e =>
  ZmD _ p _ _ _ e (ZqK _) (by have:=hpz i h; have:=Xm (ZpW h'); omega) (Xt.1 hu _ (ZpW h''))
 have hwi:=fun (i:Nat) (h:i<p.funs[j].cls.length) (m:Env) (hm:Wd p.funs[j].cls[i].pats us ([],[])=(m,true)) (H:AH) hM=>ZjG (p:=p) (m1:=m1) (m2:=m2) (r:=r) (fu:=fu) (g:=g) (ev:=ev) hev (c:=c1) (d:=d) (H:=H) (hbody i h m hm).1 (by have:=(hbody i h m hm).2; omega) hd hd2 hM
 clear hbody hcl hl hev hu hms hd2 hc;generalize p.funs[j].cls=cls at *
 obtain ⟨hm1,hm2⟩:=hm
 refine ZP (fun _ _ _ h=>h) (fun A H'=>(SubH H H'∧H' r=some (mB m1 m2 fu c1 d))∧A.d=[]∧A.t 0=ptrV r 0∧A.t 2=vsV p.funs us∧A.t 20=clsV cls∧A.t 21=iV cls.length∧∃ i:Nat,i≤cls.length∧A.t 22=iV i∧R=WM (cls.drop i) us)
  (fun A _=>match A.t 22 with | .lit (.int _ i)=>((cls.length:Int)-i).toNat | _=>0) ?_ ?_
 ·exact ⟨⟨ZpN _,hm1⟩,rfl,h0,h2,h20,h21,0,by omega,h22,hR⟩
 ·clear h0 h2 h20 h21 h22 hR;rintro ⟨t,d'⟩ H' ⟨⟨hs,k1⟩,rfl,h0,h2,h20,h21,i,hi,h22,hR⟩;dsimp only at h0 h2 h20 h21 h22;replace hR:=ZpM hR;unfold mB mC at k1;delta b49_2 Zn Zr Zk Zb Zi Zg Zq Zd Ze
  (repeat' (first | (simp only [↓Zz,ZA,ptrV,intV,ZpI,ZpJ,ZpT,reduceCtorEq,setAt,ZpL,Zc4,Zcs,Zm5,ZaD,Zm4,Zdy,WK,ZfC, *]) | (refine ZX ?_ ?_<;>intro) | (refine ZB fun zr zh=>?_; have zg:=zh; (try simp only [ZpO] at zg); (try have zn_k1:=ZpK k1 zh); (try have zn_k1:=ZpK k1 zg.2); (try have zn_k1:=ZpK k1 zg.2.2))))
  ·have hlt:i<cls.length:=by assumption
   have hpl':=hpl i hlt;have hmt':=hmt i hlt;have hwi':=hwi i hlt;have hg:=Zli (us:=us) hlt;clear hpl hpz hmt hwi;obtain ⟨X,hX⟩:∃ X,X=Wd cls[i].pats us ([],[]):=⟨_,rfl⟩
   rw [← hX] at hg hwi';replace hg:=ZpM hg;have s1:SubH H (H'.set zr (.cells 78 (clE cls[i]) 0)):=hs.of_set (hs.none zh);have q8:(H'.set zr (.cells 78 (clE cls[i]) 0)) zr=some (.cells 78 (clE cls[i]) 0):=ZpP _ _ _;have q1:(H'.set zr (.cells 78 (clE cls[i]) 0)) r=some (mB m1 m2 fu c1 d):=by rw [ZpV _ _ zn_k1.1]; exact k1
   unfold clE at s1 q8 q1;unfold mB mC at q1;generalize H'.set zr (.cells 78 [pasV cls[i].pats,iV cls[i].body.op,sV cls[i].body.name,exsV cls[i].body.kids] 0)=Hy at *
   clear k1 hs zh zg zn_k1
   refine ZP (fun _ _ _ h=>h) (fun A H2=>(SubH H H2∧H2 r=some (.cells 93 [.lit (.map (some m1)),.lit (.map (some m2)),iV fu,iV c1,iV d] 0)∧H2 zr=some (.cells 78 [pasV cls[i].pats,iV cls[i].body.op,sV cls[i].body.name,exsV cls[i].body.kids] 0))∧A.d=[]∧A.t 0=ptrV r 0∧A.t 2=vsV p.funs us∧A.t 8=ptrV zr 0∧A.t 20=clsV cls∧A.t 21=iV cls.length∧A.t 22=iV i∧A.t 27=pasV cls[i].pats∧A.t 28=iV us.length∧∃ (k:Nat) (m:Env),k≤us.length∧A.t 29=iV k∧A.t 9=envV p.funs m∧X=Wd (cls[i].pats.drop k) (us.drop k) m)
    (fun A _=>match A.t 29 with | .lit (.int _ i)=>((us.length:Int)-i).toNat | _=>0) ?_ ?_
   ·exact ⟨⟨s1,q1,q8⟩,rfl,(by simp only [ZC,ZpI,if_false, *]<;>rfl),(by simp only [ZC,ZpI,if_false, *]<;>rfl),(by simp only [ZC,ZpI,if_true,if_false, *]<;>rfl),(by simp only [ZC,ZpI,if_false, *]<;>rfl),(by simp only [ZC,ZpI,if_false, *]<;>rfl),(by simp only [ZC,ZpI,if_false, *]<;>rfl),(by simp only [ZC,ZpI,if_true,if_false, *]<;>rfl),(by simp only [ZC,ZpI,if_true,if_false, *]<;>rfl),0,([],[]),by omega,(by simp only [ZC,ZpI,if_true,if_false, *]<;>rfl),(by simp only [ZC,ZpI,if_true,if_false, *]<;>rfl),hX⟩
   ·clear h0 h2 h20 h21 h22 s1 q1 q8;obtain ⟨X0,hX0⟩:∃ X0,X0=X:=⟨_,rfl⟩
    rw [← hX0] at hwi';replace hX0:=ZpM hX0;replace hwi':=ZpM hwi';clear hX;rintro ⟨t,d'⟩ H2 ⟨⟨s1,q1,q8⟩,rfl,h0,h2,h8,h20,h21,h22,h27,h28,k,m,hk,h29,h9,hX⟩;dsimp only at h0 h2 h8 h20 h21 h22 h27 h28 h29 h9;delta b49_1 Zn Zr Za Zk Zb Zi Zc Zg Zo Zh Zq Zm;by_cases hkl:k<us.length
    ·have hkp:k<cls[i].pats.length:=by omega
     rw [ZgM hkp hkl] at hX;have hi1:(k:Int)<(us.length:Int):=by omega
     have hi2:(k:Int)<(cls[i].pats.length:Int):=by omega
     have hcl:=hmt' k hkp hkl m;have hd1:=ZdG (fs:=p.funs) hkl;obtain ⟨w1,w2⟩:=WU p.funs us[k];generalize cls[i].pats[k].mtV us[k] m=rr at *
     obtain ⟨m',b'⟩:=rr;obtain ⟨e1,e2⟩:=JU p.funs m'.2 m'.1;obtain ⟨e3,e4⟩:=JU p.funs m.2 m.1;clear hmt';unfold mtR at hcl;cases b' with
     | true =>
       replace hX:=ZpM hX
       (repeat' (first | (simp only [↓Zz,ZA,ZI,ptrV,boolV,ZpI,ZpJ,ZpT,reduceCtorEq,setAt,ZpL,Wx,WB,Zbk,Zep,Jy,WK,YJ,Zmj, *]) | (refine ZJ mixed (fun _ _ _ _ e h=>⟨e.trans h.1,h.2⟩) _ (ZpN _) ?_) | (refine ZB fun zr zh=>?_; have zg:=zh; (try simp only [ZpO] at zg); (try have zn_q1:=ZpK q1 zh); (try have zn_q1:=ZpK q1 zg.2); (try have zn_q1:=ZpK q1 zg.2.2); (try have zn_q8:=ZpK q8 zh); (try have zn_q8:=ZpK q8 zg.2); (try have zn_q8:=ZpK q8 zg.2.2)) | (exact ZpN _) | (refine ZpS ?_ ?_) | (exact Zqp (by assumption) (by assumption)) | (refine ZpQ (hcl) ?_) | (with_reducible refine And.intro ?_ ?_)))
       all_goals rw [ZK (n:=(k:Int)+1) (by omega) (by omega)]
       ·exact ⟨k+1,m',by omega,rfl,rfl,by rw [hX.out]; rfl⟩
       ·omega
     | false =>
       have hX':X=(m',false):=by rw [hX]; rfl
       have hg2:R=WM (cls.drop (i+1)) us:=by rw [hR.out,hg.out,hX']; simp
       replace hg2:=ZpM hg2;clear hX hX'
       (repeat' (first | (simp only [↓Zz,ZA,ZI,ptrV,boolV,ZpI,ZpJ,ZpT,reduceCtorEq,setAt,ZpL,Wx,WB,Zbk,Zep,Jy,WK,YJ,Zmj, *]) | (refine ZV rfl (fun _ _ _ h=>h) ?_) | (refine ZJ mixed (fun _ _ _ _ e h=>⟨e.trans h.1,h.2⟩) _ (ZpN _) ?_) | (refine ZB fun zr zh=>?_; have zg:=zh; (try simp only [ZpO] at zg); (try have zn_q1:=ZpK q1 zh); (try have zn_q1:=ZpK q1 zg.2); (try have zn_q1:=ZpK q1 zg.2.2); (try have zn_q8:=ZpK q8 zh); (try have zn_q8:=ZpK q8 zg.2); (try have zn_q8:=ZpK q8 zg.2.2)) | (exact ZpN _) | (refine ZpQ (hcl) ?_) | (with_reducible refine And.intro ?_ ?_)))
       delta c49_2 Zm Za
       (repeat' (first | (simp only [↓Zz,ZA,ptrV,ZpI,ZpJ,reduceCtorEq, *]) | (refine ZpS ?_ ?_) | (exact Zqp (by assumption) (by assumption)) | (with_reducible refine And.intro ?_ ?_)))
       ·rfl
       all_goals rw [ZK (n:=(i:Int)+1) (by omega) (by omega)]
       ·exact ⟨i+1,by omega,rfl,hg2.out⟩
       ·omega
    ·rw [Zp9 (by omega)] at hX;have hX:X=(m,true):=by rw [hX]; cases us.drop k<;>rfl
     have hX1:X0=(m,true):=hX0.out.trans hX;have hg2:R=some (cls[i].body,m):=by rw [hR.out,hg.out,hX]; simp
     rw [hg2];have hwc:=hwi'.out m hX1 H2 ⟨q1,hm2.mono s1⟩;clear hg hR hX hX1 hX0 hwi' hg2
     (repeat' (first | (simp only [↓Zz,ZA,ptrV,ZpJ,reduceCtorEq, *]) | (refine ZV rfl (fun _ _ _ h=>h) ?_)))
     delta c49_1 Za Zd Zb Zo Zr Zc
     (repeat' (first | (refine hwc.mono ?_) | (simp only [↓Wg,↓XM,↓Yf,↓Yu,↓Yr,↓Ys,↓Yt,↓WZ,↓ZC,↓Xb,↓YA,↓Yb,↓XP,↓XF,ptrV,Zp3,Zqa,ite_true,ite_false,ZpI,ZpJ,ne_eq,not_false_eq_true,true_and,Zp7,reduceCtorEq,eq_self,Zp2,ZpL,XT,XG,WY,XH,Xr,WO,ZlI,YZ,en_84, *])))
     rintro e' H3 (⟨c',v,hR,rfl,rfl⟩ | ⟨k',c',d',hR,rfl,rfl⟩)
     ·have hR':clRes ev c1 d (some (cls[i].body,m))=.ok (c',v):=hR;rw [hR'];obtain ⟨o1,o2⟩:=WU p.funs v
      (repeat' (first | (simp only [↓Zz,ZA,ZpI,ZpJ, *]) | (refine ZG ?_)))
      refine ⟨H0.set r (mB m1 m2 fu c' d),?_,.inl ⟨c',v,rfl,rfl,rfl⟩⟩;rw [← hHH];exact Zqk s1 _ _
     ·have hR':clRes ev c1 d (some (cls[i].body,m))=.error k':=hR;rw [hR']
      (repeat' (first | (simp only [↓Zz, *])))
      refine Znt (c:=c') (d':=d') ?_;rw [← hHH];exact Zqk s1 _ _
  ·have hie:i=cls.length:=by omega
   subst hie;have hg2:R=none:=by rw [hR.out,Zp9 (by omega)]; rfl
   rw [hg2];refine ZV rfl (fun _ _ _ h=>h) ?_;clear hR hg2;delta c49_3 Zq Zr
   (repeat' (first | (simp only [↓Zz,ZA,Xc,ZpI,ZpJ,ZM,fillV,setAt,ZM,Xc,ZbJ,Zeq, *])))
   show Zk2 p.funs m1 m2 r fu d H0 (.error 420) (.panic (stopE 420)) _ _;refine Znt (c:=c1) (d':=d) ?_;rw [← hHH,show H.set r (mB m1 m2 fu c1 d)=H by funext x; simp only [AH.set]; split<;>simp_all];exact hs
end Go.PV.YtglpmlbbaedbiaaGreat
end
section
open Go.PV.AH renaming set_set→Zqj
open Go.PV.Hold renaming mk→ZpM
open Go.PV.SubH renaming refl→ZpN
open List renaming getElem?_eq_getElem→ZqC,getElem_mem→ZpW,map_cons→Zp3,map_nil→Zqa,getD_cons_zero→ZqM,getD_cons_succ→Zqw,getD_nil→Zqx,drop→ZpL
open Nat renaming reduceEqDiff→ZpI,reduceLT→ZpJ,succ_ne_self→Zp7
set_option maxRecDepth 20000
set_option maxHeartbeats 4000000
namespace Go.PV.YtglpmlbbaedbiaaGreat
open Go Go.Proofs
theorem Zaw {H:AH} {r:Nat} {b:Blk} (h:H r=some b):H.set r b=H:=by funext x; simp only [AH.set]; split<;>simp_all
theorem Zoj {p:Pr} (hp:PgR p) {m1 m2 r j:Nat} {fu g c d:Int} {ev:EvF} (hev:EvHyp p m1 m2 r fu g ev) {us:List Val} (hj:j<p.funs.length) (hul:us.length≤1099511627776) (hu:YP p us) (hl:(us.length:Int)=p.funs[j].arity) (hd:0≤d) (hc:0≤c∧c≤fu) (hfu:fu≤100000) (hms:(fu-c) * 5001≤g) {H:AH} (hm:MacAt p m1 m2 r fu c d H) :
 ZT Tryz.prog 49 [ptrV r 0,.iptr ((encC fuE p.funs).drop (j * 3)),vsV p.funs us] H (McK p.funs m1 m2 r fu d H (callG p fu ev c d j us)):=by
 refine WD ?_;refine ZE fd49 (by simp) ?_;delta c49 Zq Za Zo Zr Zd Zb Ze
 have hG:∀ c1,cntV fu c d us=.ok c1→callG p fu ev c d j us=clRes ev c1 d (WM p.funs[j].cls us):=fun c1 h=>by
  unfold callG clRes;rw [h,ZqC hj];dsimp only;cases WM p.funs[j].cls us<;>rfl
 have hE:∀ k,cntV fu c d us=.error k→callG p fu ev c d j us=.error k:=fun k h=>by unfold callG; rw [h]
 have hcN:=(hp.cls _ (ZpW hj)).1;have hlp:=fun c1 (h:c1=c+1) hd2 hcf (t:Nat→VV)=>Zo2 (t:=t) hp hev hj hul hu hl hd hd2 (c1:=c1) ⟨by omega,hcf⟩ (by omega) (hm.set (c':=c1) (d':=d)) (fun b=>Zqj _ _ _ _)
 have hm1:=hm.1;rw [Wy hj];have hco:=fun (K:VE→AH→Prop) h1 h2=>ZhR (fs:=p.funs) (p:=p) (K:=K) hul hu hm1 ⟨hc.1,by omega⟩ h1 h2
 generalize callG p fu ev c d j us=X at *
 have hm1:=ZpM hm1;clear hev hu hms hm hp;have hcf:=hc.2;cases hcn:cntV fu c d us with
 | error k =>
   have hX:=hE k hcn;replace hco:=ZpM hco;rw [hcn] at hco;rw [hX];clear hE hG hlp hcn hX
   (repeat' (first | (refine hco.out _ (fun c' h _=>absurd h (by simp)) (fun k' c' h=>?_)) | (simp only [↓Wg,↓XM,↓ZnS,↓Xe,↓Yf,↓Yi,↓Zhz,↓Znl,↓Yr,↓Ys,↓Yt,↓YS,↓WZ,↓ZC,↓Xb,↓YH,↓XP,↓XF,ptrV,Zp3,Zqa,ZqM,Zqw,Zqx,ite_true,ite_false,ZpI,ZpJ,true_and,Zp7,reduceCtorEq,ZD,eq_self,undef,Zmi, *])))
   cases h;exact Znt (c:=c') (d':=d) (ZpN _)
 | ok c1 =>
   have hX:=hG _ hcn;obtain ⟨k1,k2,k3⟩:=Zb8 hcn;subst k1;rw [hX];have hlp':=hlp (c+1) rfl k3 (by omega);replace hlp':=ZpM hlp';replace hco:=ZpM hco;rw [hcn] at hco;clear hE hG hlp hcn hX
   (repeat' (first | (refine hco.out _ (fun c' h he=>?_) (fun k' c' h=>absurd h (by simp))) | (simp only [↓Wq,↓Wg,↓XM,↓ZfI,↓XZ,↓ZnS,↓ZkS,↓Xe,↓Yf,↓Yi,↓Yu,↓Yr,↓Ys,↓Yt,↓YS,↓WZ,↓ZC,↓Xb,↓YH,↓YA,↓Zbx,↓Yb,↓Jn,↓XP,↓XF,↓Zd0,vcNil,ptrV,intV,Zp3,Zqa,ZqM,Zqw,Zqx,ite_true,ite_false,ZpI,ZpJ,ne_eq,not_false_eq_true,true_and,Zp7,reduceCtorEq,ZD,eq_self,ZpL,Wi,ZbA,Zja,Zb2,ZbB,Xr,WO,undef,ZdA,ZkM,ZfC,Zmi, *])))
   exact hlp'.out _ (by simp only [ZC,ZpI,if_false, *]<;>rfl) (by simp only [ZC,ZpI,if_false, *]<;>rfl) (by simp only [ZC,ZpI,if_true,if_false, *]<;>rfl) (by simp only [ZC,ZpI,if_true,if_false, *]<;>rfl) (by simp only [ZC,ZpI,if_true,if_false, *]<;>rfl)
end Go.PV.YtglpmlbbaedbiaaGreat
end
section
open Bool renaming and_self→Zqo
open Go.PV.AH renaming set_ne→ZpV,ne_of→ZpK,get→ZpU,set_set→Zqj,set_none→ZpO,set_same→ZpP
open Go.PV.GhL renaming cons→ZpZ
open Go.PV.GhV renaming refl→Zp8,forget→Zqq
open Go.PV.Hold renaming mk→ZpM
open Go.PV.SubH renaming refl→ZpN,set→Zqk,new→ZpR
open Int renaming reduceLE→Zqi
open List renaming eq_nil_of_length_eq_zero→ZqD,drop→ZpL,map_cons→Zp3,map_nil→Zqa,length_cons→Zqb,length_nil→Zqh,append_nil→ZqJ,all_cons→Zqn,all_nil→Zqv,getElem?_cons_zero→ZqE,getElem?_cons_succ→ZqF,set_cons_zero→Zqs,set_cons_succ→Zqy,getElem?_eq_getElem→ZqC,getElem_mem→ZpW,take_of_length_le→Zqr,length_append→Zqt,length_drop→ZqO,length_take→ZqI
open Nat renaming reduceLT→ZpJ,eq_zero_or_pos→ZqT,reduceEqDiff→ZpI,reduceLeDiff→Zp1,reduceAdd→ZpT,succ_ne_self→Zp7,zero_add→Zp2,le_refl→ZpY,lt_succ_self→ZqK
open Option renaming map_none→Zqz,map_some→Zp6
set_option maxRecDepth 20000
set_option maxHeartbeats 4000000
namespace Go.PV.YtglpmlbbaedbiaaGreat
open Go Go.Proofs
theorem Zkz (fs:List Fu) (l:List Val):(encC (valE fs) l).all VV.one=true:=ZdE (fun v=>by simp [valE,(WU fs v).2]) l
theorem Zok (fs:List Fu) (l:List Val):(encC (valE fs) l).length=l.length:=by rw [ZbT (k:=1) (fun _=>rfl)]; omega
def CapX (H H':AH) (v:VV) (n:Nat) (cs:List VV):Prop:=OwnX H H' 95 1 v n cs∨(H'=H∧v=.slice true 0 []∧n=0∧cs=[])
theorem ZhS {H H':AH} {s x:VV} {n m:Nat} {cs news:List VV} {K:VE→AH→Prop} (ho:CapX H H' s n cs) (hs:srcV H' 1 x=some (m,news)) (hone:news.all VV.one=true) (hm:m ≠ 0) (hb:n+m≤1099511627776)
 (hK:∀ v' H'',OwnX H H'' 95 1 v' (n+m) (cs++news)→K (.ret v') H''):Zaz Tryz.prog 132 s x H' K:=by
 rcases ho with ho | ⟨rfl,rfl,rfl,rfl⟩
 ·exact ZcR YJ ZaX rfl (by omega) ho hs hone (by omega) (by omega) hK
 ·exact Jl YJ ZaX rfl (by omega) rfl hs hone (by omega) (by omega) (fun h=>absurd h hm) (fun _=>hK)
theorem CapX.sub {H H':AH} {v:VV} {n:Nat} {cs:List VV} (h:CapX H H' v n cs):SubH H H':=by
 rcases h with h | ⟨rfl,_⟩
 ·exact h.sub
 ·exact ZpN _
theorem Zgz {fs:List Fu}:∀ (l:List Val) (n:Nat),(encC (valE fs) l).drop n=encC (valE fs) (l.drop n)
 | [],n=>by simp [Za1]
 | v::l,0=>rfl
 | v::l,n+1=>by rw [YF]; exact Zgz l n
theorem ZjH {fs:List Fu}:∀ (l:List Val) (n:Nat),(encC (valE fs) l).take n=encC (valE fs) (l.take n)
 | [],n=>by simp [Za1]
 | v::l,0=>rfl
 | v::l,n+1=>by
   rw [YF,List.take_succ_cons,YF];show [v.vv fs]++_=_;show (v.vv fs::encC (valE fs) l).take (n+1)=_;rw [List.take_succ_cons,ZjH l n]; rfl
theorem cloneV {fs:List Fu} {l:List Val} (hl:l.length≤1099511627776) {H:AH} {K:VE→AH→Prop} (hK:∀ v H',CapX H H' v l.length (encC (valE fs) l)→K (.ret v) H'):ZT Tryz.prog 85 [vsV fs l] H K:=by
 refine ZE fd85 (by simp) ?_;delta c85 Zq Za Zr Zl Zc;replace hK:=ZpM hK
 (repeat' (first | (simp only [↓Zz,ZA,ZpJ,reduceCtorEq,ZD,undef, *])))
 refine eq_nil und_132 fun b hb=>?_
 cases b with
 | true =>
   have h0:l.length=0:=by
    rcases ZqT l.length with h | h
    ·exact h
    ·exact absurd (hb h) (by simp)
   obtain rfl:l=[]:=ZqD h0
   (repeat' (first | (simp only [↓Zz,ZA,boolV,ZpI,ZpJ, *]) | (refine ZG ?_)))
   exact hK.out _ _ (.inl (OwnX.nil _ _ _))
 | false =>
   (repeat' (first | (simp only [↓Zz,ZA,boolV,ZpI,ZpJ,Zp1,reduceCtorEq,fillV,ZH,ZH,YJ,ZaX, *])))
   refine Jl YJ ZaX rfl (by omega) rfl (Zex (enc:=valE fs) (k:=1) (fun _=>rfl) H false l) (Zkz fs l) (by omega) (by omega) (fun h=>?_) (fun _ v' H' ho=>?_)
   ·obtain rfl:l=[]:=ZqD h
    (repeat' (first | (simp only [↓Zz,ZA,ZpI,ZpJ, *]) | (refine ZG ?_)))
    exact hK.out _ _ (.inr ⟨rfl,rfl,rfl,rfl⟩)
   ·(repeat' (first | (simp only [↓Zz,ZA,ZpI,ZpJ, *]) | (refine ZG ?_)))
    exact hK.out _ _ (.inl (by simpa using ho))
theorem as_cc {y:VV} {H:AH} {K:VE→AH→Prop}:XV Tryz.prog (.iface 136 y) 136 true H K=K (.ret (.tuple [y,boolV true])) H:=propext ⟨fun h=>h.2,fun h=>⟨by kernel_rfl,h⟩⟩
theorem ZpF {y:VV} {H:AH} {K:VE→AH→Prop}:XV Tryz.prog (.iface 139 y) 139 true H K=K (.ret (.tuple [y,boolV true])) H:=propext ⟨fun h=>h.2,fun h=>⟨by kernel_rfl,h⟩⟩
abbrev zC:Value:=.agg #[.int .i64 0,.string ⟨#[]⟩,.slice none 0 0,.pointer none]
abbrev zP:Value:=.agg #[.pointer none,.slice none 0 0]
theorem as_cb {y:VV} {H:AH} {K:VE→AH→Prop}:XV Tryz.prog (.iface 142 y) 136 true H K=K (.ret (.tuple [.lit zC,boolV false])) H:=asN (by kernel_rfl) Zji (by decide)
theorem ZpG {y:VV} {H:AH} {K:VE→AH→Prop}:XV Tryz.prog (.iface 139 y) 136 true H K=K (.ret (.tuple [.lit zC,boolV false])) H:=asN (by kernel_rfl) Zji (by decide)
theorem as_pb {y:VV} {H:AH} {K:VE→AH→Prop}:XV Tryz.prog (.iface 142 y) 139 true H K=K (.ret (.tuple [.lit zP,boolV false])) H:=asN (by kernel_rfl) ZoE (by decide)
theorem Zhe {fs:List Fu} {m1 m2 r:Nat} {fu d:Int} {H:AH} {R:EvR} {f:FuncId} {xs:List VV} {K:VE→AH→Prop} (h:ZT Tryz.prog f xs H (McK fs m1 m2 r fu d H R)) (h1:∀ c v,R=.ok (c,v)→K (.ret (v.vv fs)) (H.set r (mB m1 m2 fu c d))) (h2:∀ k c d',R=.error k→K (.pan (stopE k)) (H.set r (mB m1 m2 fu c d'))):ZT Tryz.prog f xs H K:=h.mono fun e H' hq=>by
 rcases hq with ⟨c,v,hR,rfl,rfl⟩ | ⟨k,c,d',hR,rfl,rfl⟩
 ·exact h1 c v hR
 ·exact h2 k c d' hR
theorem ZmE {fs:List Fu} {p:Pr} {us:List Val} {ex:Bool} {m:Nat} {r m1 m2:Nat} {fu c d:Int} {H:AH} {K:VE→AH→Prop} (hm':m=us.length) (hl:us.length≤1099511627776) (hu:YP p us) (hm:H r=some (mB m1 m2 fu c d)) (hc:0≤c∧c≤1099511627776)
 (h1:∀ c',cntV fu c d us=.ok c'→c'=c+1→K (.ret (.tuple [])) (H.set r (mB m1 m2 fu c' d))) (h2:∀ k c',cntV fu c d us=.error k→K (.pan (stopE k)) (H.set r (mB m1 m2 fu c' d))):ZT Tryz.prog 82 [ptrV r 0,.slice ex m (encC (valE fs) us)] H K:=by
 subst hm';exact Yy (ZpZ (Zp8 _ _) (ZpZ (GhV.imm H) (GhL.nil _))) (ZhR hl hu hm hc h1 h2)
def ghK (K:VE→AH→Prop):VE→AH→Prop
 | .ret y,H=>∃ x H',GhV H y H' x∧K (.ret x) H'
 | .pan ch,H=>∃ H',SubH H' H∧K (.pan ch) H'
theorem JH {P:Program} {f:FuncId} {xs:List VV} {H:AH} {K:VE→AH→Prop} (h:ZT P f xs H (ghK K)):ZT P f xs H K:=fun S w args hs hx =>
 (h S w args hs hx).mono fun e w' hq=>by
   cases e with
   | returned v =>
     obtain ⟨S',H',y,h1,h2,h3,x,H2,h4,h5⟩:=hq;obtain ⟨S2,g1,g2,g3⟩:=h4 S' w' v h2 h3;exact ⟨S2,H2,x,h1.trans g1,g2,g3,h5⟩
   | panicked ch =>
     obtain ⟨S',H',h1,h2,H2,h4,h5⟩:=hq;exact ⟨S',H2,h1.trans (h2.sub h4).2,(h2.sub h4).1,h5⟩
   | outgrown=>exact hq
abbrev apPost (fs:List Fu) (m1 m2 r:Nat) (fu d:Int) (H:AH) (X:EvR):APost:=YI Tryz.prog [.tmp 6] (ghK (McK fs m1 m2 r fu d H X))
theorem ZeH {fs:List Fu} {m1 m2 r:Nat} {fu k c d d':Int} {H H':AH} {t:Nat→VV} (hs:SubH (H.set r (mB m1 m2 fu c d')) H'):apPost fs m1 m2 r fu d H (.error k) (.panic (stopE k)) ⟨t,[]⟩ H' :=
 ⟨rfl,H',ZpN _,_,hs,.inr ⟨k,c,d',rfl,rfl,rfl⟩⟩
theorem apply_ok {p:Pr} (hp:PgR p) {m1 m2 r:Nat} {fu g c d:Int} {ev:EvF} (hev:EvHyp p m1 m2 r fu g ev) (hpr:ZeG p fu ev) {v:Val} {us:List Val} {ex:Bool} (hv:v.ok p) (hul:us.length≤1099511627776) (hu:YP p us) (hd:0≤d) (hc:0≤c∧c≤fu) (hfu:fu≤100000) (hms:(fu-c) * 5001≤g) {H:AH} (hm:MacAt p m1 m2 r fu c d H) (n:Nat) (hn:us.length≤n) :
 ZT Tryz.prog 50 [ptrV r 0,v.vv p.funs,.slice ex us.length (encC (valE p.funs) us)] H (McK p.funs m1 m2 r fu d H (appG p fu ev n c d v us)):=by
 refine JH ?_;refine ZE fd50 (by simp) ?_;delta c50 Zq;obtain ⟨X,hX⟩:∃ X,X=appG p fu ev n c d v us:=⟨_,rfl⟩
 rw [← hX];replace hX:=ZpM hX;obtain ⟨o1,o2⟩:=WU p.funs v
 (repeat' (first | (simp only [↓Zz,ZA,ptrV,ZpJ,ZD,undef, *])))
 refine Zgx (fun _ _ _ h=>h) (fun n A H'=>(SubH (H.set r (mB m1 m2 fu c d)) H'∨True)∧A.d=[]∧A.t 0=ptrV r 0∧∃ (c':Int) (w:Val) (us:List Val) (ex:Bool),MacAt p m1 m2 r fu c' d H'∧(∀ b,SubH (H.set r b) (H'.set r b))∧A.t 1=w.vv p.funs∧A.t 2=.slice ex us.length (encC (valE p.funs) us)∧w.ok p∧YP p us∧us.length≤1099511627776∧us.length≤n∧c≤c'∧c'≤fu∧X=appG p fu ev n c' d w us)
  (n0:=n) ⟨.inr trivial,rfl,(by simp only [ZC,ZpI,if_false, *]<;>rfl),c,v,us,ex,hm,fun b=>ZpN _,(by simp only [ZC,ZpI,if_false, *]<;>rfl),(by simp only [ZC,ZpI,if_false, *]<;>rfl),hv,hu,hul,hn,by omega,hc.2,hX.out⟩ ?_
 clear hX hv hu hul hn hm o1 o2;rintro n ⟨t,d'⟩ H' ⟨_,rfl,h0,c',w,us,ex,hm,hs,h1,h2,hw,hu,hul,hn,hcc,hcf,hX⟩ Rr hrr;dsimp only at h0 h1 h2;delta b50_1 Za Ze Zm Zr Zq Zh Zi Zg Zb Zo Zd Zj Zc Zn Zl;have hm1:=hm.1;by_cases hz:us.length=0
 ·have hz':¬ (0:Int)<(us.length:Int):=by omega
  have hX':X=.ok (c',w):=by
   obtain rfl:=ZqD hz;rw [hX]; cases n<;>rw [appG]; rfl
  rw [hX'];clear hX hrr hz hX';obtain ⟨o1,o2⟩:=WU p.funs w
  (repeat' (first | (simp only [↓Zz,ZA,intV,ZpI,ZpJ,reduceCtorEq,YJ, *]) | (refine ZV rfl (fun _ _ _ h=>h) ?_)))
  delta c50_1 Za Zc
  (repeat' (first | (simp only [↓Zz,ZA,ZpI,ZpJ, *]) | (refine ZG ?_)))
  have h5:=hs (mB m1 m2 fu c' d);rw [Zaw hm1] at h5;exact ⟨_,_,Zqq h5 _,.inl ⟨c',w,rfl,rfl,rfl⟩⟩
 ·obtain ⟨a,l,hl⟩:∃ a l,us=a::l:=by
   cases us with
   | nil=>exact absurd rfl hz
   | cons a l=>exact ⟨a,l,rfl⟩
  have hz':(0:Int)<(us.length:Int):=by omega
  have hd0:ZpL (Int.toNat 0) (a.vv p.funs::encC (valE p.funs) l)=a.vv p.funs::encC (valE p.funs) l:=rfl;have hcs:encC (valE p.funs) us=a.vv p.funs::encC (valE p.funs) l:=by rw [hl]; rfl
  obtain ⟨n,rfl⟩:∃ n',n=n'+1:=⟨n-1,by omega⟩
  obtain ⟨a1,a2⟩:=WU p.funs a;cases w with
  | built m ks =>
    have hX':X=.error 421:=by rw [hX,hl,appG]
    rw [hX'];rw [Zcz] at h1;clear hX hrr hX' hl
    (repeat' (first | (simp only [↓Zz,ZA,Xc,ZI,intV,boolV,ZpI,ZpJ,reduceCtorEq,ZM,fillV,setAt,as_cb,as_pb,ZM,Xc,ZbJ,Zeq,YJ, *])))
    show apPost p.funs m1 m2 r fu d H (.error 421) (.panic (stopE 421)) _ _;refine ZeH (c:=c') (d':=d) ?_;have h5:=hs (mB m1 m2 fu c' d);rw [Zaw hm1] at h5;exact h5
  | clo x b ns vs =>
    rw [Zhc] at h1;obtain ⟨e1,e2⟩:=JU p.funs vs ns;have hco:=fun (H:AH) (K:VE→AH→Prop) hm h1 h2=>ZmE (fs:=p.funs) (p:=p) (us:=[a]) (ex:=true) (m:=1) (r:=r) (m1:=m1) (m2:=m2) (fu:=fu) (c:=c') (d:=d) (H:=H) (K:=K) rfl (by simp) ⟨by rw [hl] at hu; exact hu.1,trivial⟩ hm ⟨by omega,by omega⟩ h1 h2
    have hm1':∀ {z:Nat} {b:Blk},H' z=none→(H'.set z b) r=some (mB m1 m2 fu c' d):=fun hz=>by rw [ZpV _ _ (ZpK hm1 hz).1]; exact hm1
    have hr7:∀ z,H' z=none→¬ r=z:=fun z hz=>(ZpK hm1 hz).1
    cases hcn:cntV fu c' d [a] with
    | error k =>
      have hX':X=.error k:=by rw [hX,hl,appG,hcn]
      rw [hX'];rw [hcn] at hco;replace hco:=ZpM hco;clear hX hrr hl hX' hcn
      (repeat' (first | (refine hco.out _ _ ?_ (fun c' h _=>absurd h (by simp)) (fun k' c' h=>?_)) | (simp only [↓Wq,↓Wg,↓XM,↓XN,↓Xz,↓XZ,↓Xe,↓Yf,↓Yi,↓Zhz,↓s_inP,↓Yu,↓Znl,↓Yr,↓XJ,↓Ys,↓XK,↓Yt,↓YS,↓WZ,↓ZC,↓Xb,↓YA,↓YU,↓Wr,↓Wv,↓Zan,↓Xf,↓ZcE,↓Wh,↓Jn,↓XP,↓XF,↓Zd0,↓WA,ZI,ptrV,intV,boolV,Zp3,Zqa,Zqb,Zqh,ZqJ,ite_true,ite_false,ZpI,ZpJ,ZpT,Zp1,ne_eq,not_false_eq_true,true_and,Zp7,decide_true,reduceCtorEq,Nat.mul_one,ZpU,Zqj,fillV,setAt,Zqn,Zqv,Zqo,eq_self,Zp2,and_self,ZqE,ZqF,Wi,XS,We,YT,Xi,Zqs,Zqy,↓Ww,XW,ZpY,ZbA,ZcQ,ZaF,Zb2,ZbB,Xr,WP,WQ,Zqi,ZH,List.replicate_succ,List.replicate_zero,List.flatten_cons,List.flatten_nil,as_cc,ZH,Zbk,Zko,Zgr,YJ,ZaX,Zmi, *]) | (refine ZB fun zr zh=>?_; have zg:=zh; (try simp only [ZpO] at zg))))
      cases h;refine ZeH (c:=c') (d':=d) ?_;exact (hs _).trans (Zqk (ZpR (by assumption)) _ _)
    | ok c1 =>
      obtain ⟨k1,k2,k3⟩:=Zb8 hcn;subst k1;have hgd:=Ziu hw (by rw [hl] at hu; exact hu.1) ⟨by omega,hcf⟩ hcn;have hX':∀ R,ev (c'+1) (d+1) b (x::ns) (a::vs)=R→X=match R with | .error k=>.error k | .ok (c2,w)=>appG p fu ev n c2 d w l:=fun R hR=>by rw [hX,hl,appG,hcn,← hR]; rfl
      rw [hcn] at hco;have hl1:us.length-1=l.length:=by rw [hl]; simp
      have hlu:YP p l:=by rw [hl] at hu; exact hu.2
      replace hX':=ZpM hX';replace hrr:=ZpM hrr;replace hco:=ZpM hco;have hll:l.length≤n:=by rw [hl] at hn; simpa using hn
      have hlul:l.length≤1099511627776:=by omega
      have hbz:=hw.1.2.2.1;clear hX hl hcn hn hu hw
      (repeat' (first | (simp only [↓Zz,ZA,ZI,ptrV,intV,boolV,ZpI,ZpJ,ZpT,Zp1,reduceCtorEq,fillV,setAt,Zqi,ZH,as_cc,ZH,Zbk,Zko,Zgr,YJ,ZaX,Zmi, *]) | (refine ZB fun zr zh=>?_; have zg:=zh; (try simp only [ZpO] at zg))))
      refine hco.out _ _ (hm1' zh) (fun c1 h he=>?_) (fun k' c' h=>absurd h (by simp));subst he;obtain ⟨H3,hH3⟩:∃ H3,H3=(H'.set zr (.cells 136 [iV 5,sV x,encS exE [b],envC p.funs vs ns] 0)).set r (mB m1 m2 fu (c'+1) d):=⟨_,rfl⟩
      rw [← hH3];have hrz:=hr7 zr zh;have q7:H3 zr=some (.cells 136 [iV 5,sV x,encS exE [b],envC p.funs vs ns] 0):=by rw [hH3,ZpV _ _ (Ne.symm hrz),ZpP]
      have hM3:MacAt p m1 m2 r fu (c'+1) d H3:=by rw [hH3]; exact (hm.mono (ZpR zh)).set
      have hs3:∀ b,SubH (H.set r b) (H3.set r b):=fun b=>by rw [hH3,Zqj]; exact (hs b).trans (Zqk (ZpR zh) _ _)
      have hb0:ZpL (Int.toNat 0 * 3) (encC exE [b])=[iV b.op,sV b.name,encS exE b.kids]:=by rw [YF,Jt]; rfl
      have h01:(0:Int)<((1:Nat):Int):=by decide
      clear hco zh zg hH3
      (repeat' (first | (simp only [↓Zz,ZA,ptrV,ZpI,ZpJ,ZpT,Zp1,reduceCtorEq,ZM,fillV,setAt,ZpL,Zqi,Zjj,Yk,Ym,Zjk,Zbk,Xa,YZ,ZW,Zer,Zkp,YJ,Yx,en_84, *]) | (refine ZJ mixed (fun _ _ _ _ e h=>⟨e.trans h.1,h.2⟩) _ (ZpN _) ?_) | (refine And.intro (ZpR (by assumption)) ?_) | (refine ZB fun zr zh=>?_; have zg:=zh; (try simp only [ZpO] at zg); (try have zn_q7:=ZpK q7 zh); (try have zn_q7:=ZpK q7 zg.2); (try have zn_q7:=ZpK q7 zg.2.2))))
      refine Yy (ZpZ (Zp8 _ _) (ZpZ (Zp8 _ _) (ZpZ (GhV.ptrN (ZpP _ _ _) zh (ZpR zh)) (GhL.nil _)))) ?_;have he:VV.iptr [.lit (.string x),a.vv p.funs,envC p.funs vs ns]=envC p.funs (a::vs) (x::ns):=by rw [envC]
      rw [he];refine Zhe (ZjG hev (e:=b) hgd (by omega) hd k3 hM3) (fun c2 w2 hR=>?_) (fun k c2 d2 hR=>?_)
      ·have hX2:X=appG p fu ev n c2 d w2 l:=hX'.out _ hR;obtain ⟨g1,g2,g3⟩:=hpr _ _ _ _ _ _ _ hgd hR;obtain ⟨o1,o2⟩:=WU p.funs w2;clear hX' he zh zg hR;replace hX2:=ZpM hX2
       (repeat' (first | (simp only [↓Zz,ZA,ZpI,ZpJ,ZpL,Zqi,Int.reduceToNat,YC,Zqz,Zp6,Xj,idxV,idxOk,imp_self,YJ, *]) | (with_reducible refine And.intro ?_ ?_)))
       ·omega
       ·exact hrr.out n _ _ (ZqK _) ⟨.inr trivial,rfl,(by simp only [ZC,ZpI,if_false, *]<;>rfl),c2,w2,l,_,hM3.set,fun b=>by rw [Zqj]; exact hs3 b,(by simp only [ZC,ZpI,if_true,if_false, *]<;>rfl),(by simp only [ZC,ZpI,if_true,if_false, *]<;>rfl),g1,hlu,hlul,hll,by omega,g3,hX2.out⟩
      ·have hX2:X=.error k:=hX'.out _ hR;rw [hX2];clear hX' he hR hX2
       (repeat' (first | (simp only [↓Zz, *])))
       exact ZeH (c:=c2) (d':=d2) (hs3 _)
  | part j hs2 =>
    obtain ⟨⟨hj,hhl,har⟩,hh⟩:=hw
    change (hs2.length:Int)<arAt p j at har
    have hA:arAt p j=p.funs[j].arity:=by unfold arAt; rw [ZqC hj]
    have hA10:=hp.ar _ (ZpW hj);obtain ⟨la,hla⟩:∃ la:Nat,p.funs[j].arity-hs2.length=la:=⟨(p.funs[j].arity-hs2.length).toNat,by omega⟩
    have hla1:1≤la:=by omega
    have hla10:la≤10:=by omega
    have hwl:IntKind.i64.wrap (la:Int)=la:=ZK (n:=(la:Int)) (by omega) (by omega);have hfd:=Wy (l:=p.funs) hj;rw [Zc7,hfd] at h1;by_cases hlt:us.length<la
    ·have hlt':(us.length:Int)<(la:Int):=by omega
     have hX':X=.ok (c',.part j (hs2++us)):=by
      rw [hX,hl,appG,if_pos (by rw [← hl,hA,hla]; exact hlt')]
     rw [hX'];clear hX hrr hl hX'
     (repeat' (first | (simp only [↓Zz,ZA,↓Zmk,vcNil,ZI,ptrV,intV,boolV,ZpI,ZpJ,ZpT,reduceCtorEq,setAt,ZpL,vcMin,ZpG,ZpF,YC,Zqz,Zp6,Xj,idxV,idxOk,ZdW,ZbL,Zbl,Zhw,ZQ,JK,Zhv,ZdU,YJ,en_85, *]) | (refine ZJ mixed (fun _ _ _ _ e h=>⟨e.trans h.1,h.2⟩) _ (ZpN _) ?_) | (refine ZB fun zr zh=>?_; have zg:=zh; (try simp only [ZpO] at zg)) | (with_reducible refine And.intro ?_ ?_)))
     ·exact fun h=>h.elim
     ·omega
     have hsr:∀ H ex,srcV H 1 (.slice ex (us.length-0) (a.vv p.funs::encC (valE p.funs) l))=some (us.length,encC (valE p.funs) us):=fun H ex=>by rw [← hcs]; simp [srcV,Zok,Zqr]
     refine cloneV hhl (fun v' H4 hcap=>?_);clear hcs
     (repeat' (first | (simp only [↓Zz,ZA,ZpI,ZpJ, *]) | (with_reducible refine And.intro ?_ ?_)))
     ·exact hcap.sub
     refine ZhS hcap (hsr _ _) (Zkz _ _) (by omega) (by omega) (fun v2 H5 ho=>?_);have q8:=ho.sub _ _ (ZpP _ _ _);have c1:=ho.cells.1;have c2:=ho.cells.2;have hbk:=hs (mB m1 m2 fu c' d);rw [Zaw hm1] at hbk;have hv2:=GhV.back ho (hbk.trans (ZpR zh))
     have hres:(Val.part j (hs2++us)).vv p.funs=.iface 139 (.agg [.iptr (sV p.funs[j].name::iV p.funs[j].arity::clsV p.funs[j].cls::encC fuE (p.funs.drop (j+1))),.slice false (hs2.length+us.length) (encC (valE p.funs) hs2++encC (valE p.funs) us)]):=by
      rw [Zc7,Wy hj,← Yl,← Zqt]
     replace hv2:=ZpM hv2;replace hres:=ZpM hres;clear ho hcap hsr hbk
     (repeat' (first | (simp only [↓Zz,ZA,Xc,intV,ZpI,ZpJ,ZpT,Zp1,reduceCtorEq,ZM,fillV,setAt,ZpL,Zn0,ZM,Xc,ZdW,Zhw,ZnL,YJ, *]) | (refine ZG ?_) | (with_reducible refine And.intro ?_ ?_)))
     ·exact ni_139
     exact ⟨_,_,GhV.iface (GhV.agg (ZpZ (Zp8 _ _) (ZpZ hv2.out (GhL.nil _)))),.inl ⟨c',_,rfl,by rw [hres.out],rfl⟩⟩
    ·have hlt':¬ (us.length:Int)<(la:Int):=by omega
     have hX':∀ R,callG p fu ev c' d j (hs2++us.take la)=R→X=match R with | .error k=>.error k | .ok (c2,w)=>appG p fu ev n c2 d w (us.drop la):=fun R hR=>by
      have e1:(arAt p j-(hs2.length:Int)).toNat=la:=by omega
      rw [hX,hl,appG,if_neg (by rw [← hl,hA,hla]; exact hlt'),e1,← hl,hR];cases R<;>rfl
     replace hX':=ZpM hX';replace hrr:=ZpM hrr;have hll:(us.drop la).length≤n:=by rw [ZqO]; omega
     have hlul:(us.drop la).length≤1099511627776:=by rw [ZqO]; omega
     have htk:(us.take la).length=la:=by rw [ZqI]; omega
     clear hX hl
     (repeat' (first | (simp only [↓Zz,ZA,↓Zmk,vcNil,ZI,ptrV,intV,boolV,ZpI,ZpJ,ZpT,reduceCtorEq,setAt,ZpL,vcMin,ZpG,ZpF,YC,Zqz,Zp6,Xj,idxV,idxOk,ZdW,ZbL,Zbl,Zhw,ZQ,JK,Zhv,ZdU,YJ,en_85, *]) | (refine ZJ mixed (fun _ _ _ _ e h=>⟨e.trans h.1,h.2⟩) _ (ZpN _) ?_) | (refine ZB fun zr zh=>?_; have zg:=zh; (try simp only [ZpO] at zg)) | (with_reducible refine And.intro ?_ ?_)))
     ·exact fun h=>h.elim
     ·omega
     ·omega
     have hsr:∀ H ex,srcV H 1 (.slice ex (la-0) (a.vv p.funs::encC (valE p.funs) l))=some (la,encC (valE p.funs) (us.take la)):=fun H ex=>by
      rw [← hcs,← ZjH]; simp [srcV,Zok]; omega
     have hdr:ZpL (la * 1) (a.vv p.funs::encC (valE p.funs) l)=encC (valE p.funs) (us.drop la):=by rw [← hcs,Zgz,Nat.mul_one]
     have hdl:us.length-la=(us.drop la).length:=by rw [ZqO]
     refine cloneV hhl (fun v' H4 hcap=>?_);clear hcs
     (repeat' (first | (simp only [↓Zz,ZA,ZpI,ZpJ, *]) | (with_reducible refine And.intro ?_ ?_)))
     ·exact hcap.sub
     refine ZhS hcap (hsr _ _) (Zkz _ _) (by omega) (by omega) (fun v2 H5 ho=>?_);have q8:=ho.sub _ _ (ZpP _ _ _);have c1:=ho.cells.1;have c2:=ho.cells.2;have hv2:=GhV.back ho (ZpR zh);replace hv2:=ZpM hv2;clear ho hcap hsr
     (repeat' (first | (simp only [↓Zz,ZA,ptrV,intV,ZpI,ZpJ,reduceCtorEq,ZpL,ZdW,Zhw,YJ,en_49, *])))
     refine Yy (ZpZ (Zp8 _ _) (ZpZ (Zp8 _ _) (ZpZ hv2.out (GhL.nil _)))) ?_
     have hvs:vsV p.funs (hs2++us.take la)=.slice false (hs2.length+la) (encC (valE p.funs) hs2++encC (valE p.funs) (us.take la)):=by
      show encS _ _=_;rw [encS,Yl,Zqt,htk]
     have hlen:((hs2++us.take la).length:Int)=p.funs[j].arity:=by rw [Zqt,htk]; omega
     have hcl:=Zoj (d:=d) hp hev hj (us:=hs2++us.take la) (by omega) (Jc.2 ⟨hh,Zaa hu la⟩) hlen hd ⟨by omega,hcf⟩ hfu (by omega) hm;rw [hvs,hfd] at hcl;refine Zhe hcl (fun c2 w2 hR=>?_) (fun k c2 d2 hR=>?_)
     ·have hX2:X=appG p fu ev n c2 d w2 (us.drop la):=hX'.out _ hR;obtain ⟨g1,g2,g3⟩:=ZdH hp hpr (Jc.2 ⟨hh,Zaa hu la⟩) (by rw [hA]; exact hlen) ⟨by omega,hcf⟩ hR;obtain ⟨o1,o2⟩:=WU p.funs w2;have hlu:=ZbU hu la;clear hX' hR hcl hvs q8 zh zg;replace hX2:=ZpM hX2
      (repeat' (first | (simp only [↓Zz,ZA,ZpI,ZpJ,YC,Zqz,Zp6,Xj,idxV,idxOk,imp_self,YJ, *]) | (with_reducible refine And.intro ?_ ?_)))
      any_goals omega
      ·exact hrr.out n _ _ (ZqK _) ⟨.inr trivial,rfl,(by simp only [ZC,ZpI,if_false, *]<;>rfl),c2,w2,us.drop la,_,hm.set,fun b=>by rw [Zqj]; exact hs b,(by simp only [ZC,ZpI,if_true,if_false, *]<;>rfl),(by simp only [ZC,ZpI,if_true,if_false, *,Zgz]<;>rfl),g1,hlu,hlul,hll,by omega,g3,hX2.out⟩
     ·have hX2:X=.error k:=hX'.out _ hR;rw [hX2];clear hX' hR hX2 hcl hvs
      (repeat' (first | (simp only [↓Zz, *])))
      exact ZeH (c:=c2) (d':=d2) (hs _)
end Go.PV.YtglpmlbbaedbiaaGreat
end
section
open Go.PV.AH renaming set_ne→ZpV,set_none→ZpO,ne_of→ZpK,set_set→Zqj
open Go.PV.Hold renaming mk→ZpM
open Go.PV.SubH renaming refl→ZpN,new→ZpR,set→Zqk
open List renaming drop_eq_getElem_cons→Zql,drop→ZpL,getElem_mem→ZpW,drop_eq_nil_of_le→Zp9
open Nat renaming reduceEqDiff→ZpI,reduceLT→ZpJ,reduceAdd→ZpT,reduceLeDiff→Zp1
set_option maxRecDepth 20000
set_option maxHeartbeats 4000000
namespace Go.PV.YtglpmlbbaedbiaaGreat
open Go Go.Proofs
def appL (l:List Val) (R:EvL):EvL:=match R with | .error k=>.error k | .ok (c,m)=>.ok (c,l++m)
theorem ZlZ (R:EvL):appL [] R=R:=by
 cases R with
 | error k=>rfl
 | ok x=>rfl
def McL (fs:List Fu) (m1 m2 r:Nat) (fu d:Int) (H:AH) (R:EvL) (e:VE) (H':AH):Prop :=
 (∃ c l,R=.ok (c,l)∧e=.ret (vsV fs l)∧H'=H.set r (mB m1 m2 fu c d))∨(∃ k c d',R=.error k∧e=.pan (stopE k)∧H'=H.set r (mB m1 m2 fu c d'))
theorem ZhT {ev:EvF} {d:Int} {ns:List ByteArray} {vs:List Val} {c:Int} {ks:List Ex} {i:Nat} (h:i<ks.length):listG ev d ns vs c (ks.drop i)=match ev c d ks[i] ns vs with
 | .error k=>.error k
 | .ok (c',v)=>(match listG ev d ns vs c' (ks.drop (i+1)) with
   | .error k=>.error k
   | .ok (c'',l)=>.ok (c'',v::l)):=by rw [Zql h,listG]; rfl
theorem Zol {p:Pr} {m1 m2 r r3 r4 r5:Nat} {fu g c d:Int} {ev:EvF} (hev:EvHyp p m1 m2 r fu g ev) (hpr:ZeG p fu ev) {e:Ex} {ns:List ByteArray} {vs:List Val} (hk:∀ k∈e.kids,k.sdF p ns=0∧k.nmOk∧k.sz≤5000∧(fu-c) * 5001+k.sz<g) (hkl:e.kids.length≤5000) (hen:EnvOk p (ns,vs)) (hc:0≤c∧c≤fu) (hd:0≤d∧d≤2000) {H:AH} (hm:MacAt p m1 m2 r fu c d H)
 (h3:H r3=some (.cells 91 [ptrV r 0] 0)) (h4:H r4=some (.cells 35 [iV e.op,sV e.name,encS exE e.kids] 0)) (h5:H r5=some (.cells 131 [envC p.funs vs ns] 0)) :
 ZT Tryz.prog 47 [ptrV r4 0,ptrV r3 0,ptrV r5 0] H (McL p.funs m1 m2 r fu d H (listG ev d ns vs c e.kids)):=by
 refine JH ?_;refine ZE fd47 (by simp) ?_;delta c47 Zq Zd Zb Ze;obtain ⟨X,hX⟩:∃ X,X=listG ev d ns vs c e.kids:=⟨_,rfl⟩
 rw [← hX];replace hX:=ZpM hX;obtain ⟨e1,e2⟩:=JU p.funs vs ns;have n3:¬ r=r3∧¬ r3=r:=⟨fun h=>by subst h; rw [hm.1] at h3; simp [mB] at h3,fun h=>by subst h; rw [hm.1] at h3; simp [mB] at h3⟩
 have n4:¬ r=r4∧¬ r4=r:=⟨fun h=>by subst h; rw [hm.1] at h4; simp [mB] at h4,fun h=>by subst h; rw [hm.1] at h4; simp [mB] at h4⟩
 have n5:¬ r=r5∧¬ r5=r:=⟨fun h=>by subst h; rw [hm.1] at h5; simp [mB] at h5,fun h=>by subst h; rw [hm.1] at h5; simp [mB] at h5⟩
 (repeat' (first | (simp only [↓Zz,ZA,ptrV,intV,ZpI,ZpJ,reduceCtorEq,ZD,ZpL,undef,Yk,Xa,Yx, *])))
 refine ZP (fun _ _ _ h=>h) (fun A H'=>A.d=[]∧A.t 0=ptrV r4 0∧A.t 1=ptrV r3 0∧A.t 2=ptrV r5 0∧A.t 8=exsV e.kids∧A.t 9=iV e.kids.length∧∃ (i:Nat) (c':Int) (l:List Val) (Hb:AH),i≤e.kids.length∧A.t 10=iV i∧l.length=i∧YP p l∧c≤c'∧c'≤fu∧SubH (H.set r (mB m1 m2 fu c' d)) Hb∧OwnX Hb H' 95 1 (A.t 4) i (encC (valE p.funs) l)∧X=appL l (listG ev d ns vs c' (e.kids.drop i)))
  (fun A _=>match A.t 10 with | .lit (.int _ i)=>((e.kids.length:Int)-i).toNat | _=>0) ?_ ?_
 ·refine ⟨rfl,(by simp only [ZC,ZpI,if_false, *]<;>rfl),(by simp only [ZC,ZpI,if_false, *]<;>rfl),(by simp only [ZC,ZpI,if_false, *]<;>rfl),(by simp only [ZC,ZpI,if_true,if_false, *]<;>rfl),(by simp only [ZC,ZpI,if_true,if_false, *]<;>rfl),0,c,[],H,by omega,(by simp only [ZC,ZpI,if_true,if_false, *]<;>rfl),rfl,trivial,by omega,hc.2,by rw [Zaw hm.1]; exact ZpN _,?_,by rw [ZlZ]; exact hX.out⟩;simp only [ZC,ZpI,if_true,if_false];exact OwnX.nil _ _ _
 ·clear hX;rintro ⟨t,d'⟩ H' ⟨rfl,h0,h1,h2,h8,h9,i,c',l,Hb,hi,h10,hl,hlo,hcc,hcf,hs,ho,hX⟩;dsimp only at h0 h1 h2 h8 h9 h10 ho;have hsub:=hs.trans ho.sub;have k3:H' r3=some (.cells 91 [ptrV r 0] 0):=hsub _ _ (by rw [ZpV _ _ n3.2]; exact h3);have k4:H' r4=some (.cells 35 [iV e.op,sV e.name,encS exE e.kids] 0):=hsub _ _ (by rw [ZpV _ _ n4.2]; exact h4);have k5:H' r5=some (.cells 131 [envC p.funs vs ns] 0):=hsub _ _ (by rw [ZpV _ _ n5.2]; exact h5);have hM:MacAt p m1 m2 r fu c' d Hb:=(hm.set (c':=c') (d':=d)).mono hs;delta b47_1 Zn Zr Zk Zb Zi Zg Za Zo Zq Zl Zc Zm;by_cases hlt:i<e.kids.length
  ·have hil:(i:Int)<(e.kids.length:Int):=by omega
   have hdi:=XI hlt;obtain ⟨z1,z2,z3,z4⟩:=hk _ (ZpW hlt);have hcl:=fun H (h:MacAt p m1 m2 r fu c' d H)=>hev c' d e.kids[i] ns vs H ⟨z1,z2,z3,hen,by omega,hcf⟩ (by omega) hd.1 hd.2 h
   have hpr':=hpr c' d e.kids[i] ns vs;have hgd:Zb4 p fu c' e.kids[i] ns vs:=⟨z1,z2,z3,hen,by omega,hcf⟩
   rw [ZhT hlt] at hX;clear hev hpr hk z1 z2 z3 z4;have hXe:∀ k,ev c' d e.kids[i] ns vs=.error k→X=.error k:=fun k h=>by rw [hX,h]; rfl
   have hXo:∀ c2 v,ev c' d e.kids[i] ns vs=.ok (c2,v)→X=appL (l++[v]) (listG ev d ns vs c2 (e.kids.drop (i+1))):=fun c2 v h=>by
    rw [hX,h];dsimp only;cases listG ev d ns vs c2 (e.kids.drop (i+1)) with
    | error k=>rfl
    | ok x=>simp [appL]
   clear hX
   (repeat' (first | (simp only [↓Zz,ZA,ptrV,ZpI,ZpJ,ZpT,setAt,ZpL,YZ,ZfE,Zer,Zbh,Wj,Yx,Zpp, *]) | (refine ZB fun zr zh=>?_; have zg:=zh; (try simp only [ZpO] at zg); (try have zn_k3:=ZpK k3 zh); (try have zn_k3:=ZpK k3 zg.2); (try have zn_k3:=ZpK k3 zg.2.2); (try have zn_k4:=ZpK k4 zh); (try have zn_k4:=ZpK k4 zg.2); (try have zn_k4:=ZpK k4 zg.2.2); (try have zn_k5:=ZpK k5 zh); (try have zn_k5:=ZpK k5 zg.2); (try have zn_k5:=ZpK k5 zg.2.2))))
   refine Zhe (hcl _ ((hM.mono ho.sub).mono (ZpR zh))) (fun c2 v hR=>?_) (fun k c2 d2 hR=>?_)
   ·have hX2:=hXo _ _ hR;obtain ⟨g1,g2,g3⟩:=hpr' _ _ hgd hR;obtain ⟨o1,o2⟩:=WU p.funs v;have hzb:Hb zr=none:=ho.sub.none zh
    have hs2:SubH (H.set r (mB m1 m2 fu c2 d)) ((Hb.set zr (.cells 35 [iV e.kids[i].op,sV e.kids[i].name,encS exE e.kids[i].kids] 0)).set r (mB m1 m2 fu c2 d)):=by
     have:=Zqk (hs.of_set (b:=.cells 35 [iV e.kids[i].op,sV e.kids[i].name,encS exE e.kids[i].kids] 0) (hs.none hzb)) r (mB m1 m2 fu c2 d)
     rwa [Zqj] at this
    have ho2:=(ho.alloc zh (.cells 35 [iV e.kids[i].op,sV e.kids[i].name,encS exE e.kids[i].kids] 0)).put (show (Hb.set zr _) r=some (mB m1 m2 fu c' d) by rw [ZpV _ _ (ZpK hM.1 hzb).1]; exact hM.1) (mB m1 m2 fu c2 d);have hlo2:YP p (l++[v]):=Jc.2 ⟨hlo,g1,trivial⟩;replace hX2:=ZpM hX2;clear hR hXo hXe hpr' hcl ho zh zg
    (repeat' (first | (simp only [↓Zz,ZA,ZpI,ZpJ,Zp1,fillV,setAt,ZH,ZH,YJ,ZaX, *])))
    refine WH YJ ZaX rfl (by omega) ho2 rfl (by simp [o2]) (by omega) (by omega) (fun v' H'' ho3=>?_);have c6:=ho3.cells.1;have c7:=ho3.cells.2
    (repeat' (first | (simp only [↓Zz,ZA,ptrV,ZpI,ZpJ,reduceCtorEq, *]) | (with_reducible refine And.intro ?_ ?_)))
    all_goals rw [ZK (n:=(i:Int)+1) (by omega) (by omega)]
    ·exact ⟨i+1,c2,l++[v],_,by omega,rfl,by simp [hl],hlo2,by omega,g3,hs2,by rw [Yl]; exact ho3,hX2.out⟩
    ·omega
   ·have hX2:=hXe _ hR;rw [hX2];clear hR hXo hXe hpr' hcl
    (repeat' (first | (simp only [↓Zz, *])))
    refine ⟨rfl,_,ZpN _,H.set r (mB m1 m2 fu c2 d2),?_,.inr ⟨k,c2,d2,rfl,rfl,rfl⟩⟩
    have:=Zqk (hsub.of_set (b:=.cells 35 [iV e.kids[i].op,sV e.kids[i].name,encS exE e.kids[i].kids] 0) (hsub.none zh)) r (mB m1 m2 fu c2 d2)
    rwa [Zqj] at this
  ·have hil:¬ (i:Int)<(e.kids.length:Int):=by omega
   rw [Zp9 (by omega),listG] at hX;have hX:X=.ok (c',l):=by rw [hX]; simp [appL]
   rw [hX];have ho1:=ho.cells.1;have ho2:=ho.cells.2;have hg:=GhV.back ho hs;rw [← hl] at hg;replace hg:=ZpM hg;clear ho
   (repeat' (first | (simp only [↓Zz,ZA,ptrV,ZpJ, *]) | (refine ZV rfl (fun _ _ _ h=>h) ?_)))
   delta c47_1 Za Zc
   (repeat' (first | (simp only [↓Zz,ZA,ZpI,ZpJ, *]) | (refine ZG ?_)))
   exact ⟨_,_,hg.out,.inl ⟨c',l,rfl,rfl,rfl⟩⟩
end Go.PV.YtglpmlbbaedbiaaGreat
end
section
open List renaming getElem?_eq_getElem→ZqC,getElem_mem→ZpW
set_option maxRecDepth 20000
set_option maxHeartbeats 4000000
namespace Go.PV.YtglpmlbbaedbiaaGreat
open Go Go.Proofs
theorem Znu {p:Pr} (hnd:NdP p) {s:ByteArray} (h:0≤atFu p.funs s):∃ j,∃ hj:j<p.funs.length,atFu p.funs s=j∧arFu p.funs s=p.funs[j].arity∧funMk p.funs p.funs.length s=some (.iptr (sV p.funs[j].name::iV p.funs[j].arity::clsV p.funs[j].cls::encC fuE (p.funs.drop (j+1)))):=by
 rcases ZlU hnd.funs s with ⟨h1,_⟩ | ⟨j,hj,h1,h2,h3⟩
 ·omega
 ·refine ⟨j,hj,h1,?_,by rw [h3,Wy hj]⟩;unfold arFu;rw [h1]; simp [hj]
theorem Zf1 {p:Pr}:∀ {ns:List ByteArray} {vs:List Val} {s:ByteArray},ns.length=vs.length→YP p vs→s∈ns→∃ v,findV ns vs s=some v∧v.ok p
 | [],vs,s,hl,hv,hs=>by cases hs
 | n::ns,[],s,hl,hv,hs=>by simp at hl
 | n::ns,v::vs,s,hl,hv,hs=>by
   rw [findV];by_cases h:n=s
   ·exact ⟨v,if_pos h,hv.1⟩
   ·rw [if_neg h];exact Zf1 (by simpa using hl) hv.2 ((List.mem_cons.1 hs).resolve_left (fun e=>h e.symm))
theorem ZbO {p:Pr} {e:Ex} {b:List ByteArray} (h:e.sdF p b=0):(e.op=1∧e.name∈b)∨(e.op=5∧∃ k,e.kids=[k]∧k.sdF p (b++[e.name])=0)∨(e.op=2∧0≤atFu p.funs e.name)∨(e.op=3∧∀ k∈e.kids,k.sdF p b=0)∨(e.op=4∧2≤e.kids.length∧∀ k∈e.kids,k.sdF p b=0):=by
 obtain ⟨h1,h2⟩:=ZaI.1 h;obtain ⟨g1,g2,g3,g4⟩:=ZeE.1 h1;unfold formB at g1;by_cases o1:e.op=1
 ·exact .inl ⟨o1,g4 o1⟩
 ·by_cases o2:e.op=2
  ·exact .inr (.inr (.inl ⟨o2,g2 o2⟩))
  ·rw [if_neg (by omega)] at g1;by_cases o5:e.op=5
   ·rw [if_pos o5] at g1;rw [if_pos o5] at h2;have hk:e.kids.length=1:=by simp at g1; omega
    obtain ⟨k,hk⟩:=List.length_eq_one_iff.1 hk;exact .inr (.inl ⟨o5,k,hk,h2 k (by rw [hk]; simp)⟩)
   ·rw [if_neg o5] at g1 h2;by_cases o4:e.op=4
    ·rw [if_pos o4] at g1;exact .inr (.inr (.inr (.inr ⟨o4,by simp at g1; omega,h2⟩)))
    ·rw [if_neg o4] at g1;by_cases o3:e.op=3
     ·exact .inr (.inr (.inr (.inl ⟨o3,h2⟩)))
     ·rw [if_neg o3] at g1; cases g1
theorem Ziv (p:Pr) (fu:Int) (g:Nat) (c d:Int) (e:Ex) (ns:List ByteArray) (vs:List Val):evG p fu (g+1) c d e ns vs =
 if e.op=1 then (match findV ns vs e.name with | some v=>.ok (c,v) | none=>.error 0)
 else if e.op=5 then .ok (c,.clo e.name (e.kids.headD zEx) ns vs)
 else if e.op=2 then (if 0<arFu p.funs e.name then .ok (c,.part (atFu p.funs e.name).toNat []) else callG p fu (evG p fu g) c d (atFu p.funs e.name).toNat [])
 else match listG (evG p fu g) d ns vs c e.kids with
  | .error k=>.error k
  | .ok (c',l)=>if e.op=3 then .ok (c',.built e.name l) else match l with
    | v::l=>appG p fu (evG p fu g) l.length c' d v l
    | []=>.error 0:=rfl
theorem ZdJ {p:Pr} (hp:PgR p) {fu:Int}:∀ g:Nat,ZeG p fu (evG p fu g)
 | 0,c,d,e,ns,vs,c',v,hg,h=>by cases h
 | g+1,c,d,e,ns,vs,c',v,hg,h=>by
   have ih:=ZdJ hp (fu:=fu) g;have hz:=e.sz_eq;have hz5:=hg.sz;have hkn:=(Ex.nmOk_iff.1 hg.nm).2;have hkl:=YN e.kids;rw [Ziv] at h;rcases ZbO hg.sd with ⟨ho,hn⟩ | ⟨ho,k,hk,hks⟩ | ⟨ho,ha⟩ | ⟨ho,hk⟩ | ⟨ho,hk2,hk⟩
   ·obtain ⟨w,hw,hwo⟩:=Zf1 hg.env.1 hg.env.2 hn;rw [if_pos ho] at h;rw [hw] at h;cases h;exact ⟨hwo,Int.le_refl _,hg.cf⟩
   ·rw [if_neg (by omega),if_pos ho,hk] at h;cases h
    have hl5:(Ex.mk 5 e.name [k]).sdF p ns=0:=by
     have:=hg.sd
     cases e;simp only [Ex.op,Ex.kids] at ho hk;subst ho; subst hk;exact this
    refine ⟨⟨⟨hg.env.1,hl5,?_,hkn k (by rw [hk]; simp),(Ex.nmOk_iff.1 hg.nm).1⟩,hg.env.2⟩,Int.le_refl _,hg.cf⟩
    have:=Ya (l:=e.kids) (e:=k) (by rw [hk]; simp)
    show k.sz≤5000;omega
   ·rw [if_neg (by omega),if_neg (by omega),if_pos ho] at h;obtain ⟨j,hj,ha1,ha2,_⟩:=Znu hp.nd ha;have hA:arAt p j=p.funs[j].arity:=by unfold arAt; rw [ZqC hj]
    have hA0:=hp.ar _ (ZpW hj);rw [ha1] at h;split at h
    ·rename_i hlt;cases h;refine ⟨⟨⟨hj,by simp,?_⟩,trivial⟩,Int.le_refl _,hg.cf⟩
     change ((([]:List Val).length:Nat):Int)<arAt p j
     rw [hA,← ha2]; simpa using hlt
    ·rename_i hlt;obtain ⟨g1,g2,g3⟩:=ZdH hp ih (us:=[]) (j:=j) trivial (by rw [hA]; simp; omega) ⟨hg.c0,hg.cf⟩ h;exact ⟨g1,by omega,g3⟩
   ·rw [if_neg (by omega),if_neg (by omega),if_neg (by omega)] at h;split at h
    ·cases h
    ·rename_i c1 l hl;obtain ⟨g1,g2,g3,g4⟩:=ZdI ih hg.env e.kids c c1 l (fun k hk'=>⟨hk k hk',hkn k hk',by have:=Ya hk'; omega⟩) ⟨hg.c0,hg.cf⟩ hl;rw [if_pos ho] at h;cases h;exact ⟨⟨by omega,g1⟩,g3,g4⟩
   ·rw [if_neg (by omega),if_neg (by omega),if_neg (by omega)] at h;split at h
    ·cases h
    ·rename_i c1 l hl;obtain ⟨g1,g2,g3,g4⟩:=ZdI ih hg.env e.kids c c1 l (fun k hk'=>⟨hk k hk',hkn k hk',by have:=Ya hk'; omega⟩) ⟨hg.c0,hg.cf⟩ hl;rw [if_neg (by omega)] at h;cases l with
     | nil=>cases h
     | cons w l =>
       obtain ⟨g5,g6,g7⟩:=Zky hp ih _ c1 w l c' v g1.1 g1.2 (by simp at g2; omega) (by have:=hg.c0; omega) h;exact ⟨g5,by omega,g7⟩
end Go.PV.YtglpmlbbaedbiaaGreat
end
section
open Go.PV.AH renaming set_none→ZpO,ne_of→ZpK,set_same→ZpP,get→ZpU
open Go.PV.GhL renaming cons→ZpZ
open Go.PV.GhV renaming forget→Zqq,refl→Zp8
open Go.PV.Hold renaming mk→ZpM
open Go.PV.PureF renaming use→ZpQ
open Go.PV.SubH renaming new→ZpR,refl→ZpN
open Int renaming reduceLE→Zqi,reduceNeg→ZqG,reduceEq→Zp5
open List renaming map_cons→Zp3,drop_zero→ZqL,getElem_map→ZqR,drop→ZpL,take_of_length_le→Zqr,length_take→ZqI,length_append→Zqt,append_nil→ZqJ,getElem_mem→ZpW
open Nat renaming reduceEqDiff→ZpI,reduceLT→ZpJ,reduceAdd→ZpT,reduceLeDiff→Zp1,reduceMul→Zqu,le_refl→ZpY,lt_or_ge→Zqm
set_option maxRecDepth 20000
set_option maxHeartbeats 4000000
namespace Go.PV.YtglpmlbbaedbiaaGreat
open Go Go.Proofs
mutual
def Ex.putM (m:Bool):Ex→List Bd→Ex
 | .mk op n ks,l=>if m=true∧op=9 then .mk op n ks else match (if op=1 then lastB l n else none) with
   | some e=>if m=true then .mk 9 { data:=#[] } [e] else e
   | none=>.mk op n (ZeI m ks (if op=5 then l.filter (fun b=>!decide (b.1=n)) else l))
def ZeI (m:Bool):List Ex→List Bd→List Ex
 | [],_=>[]
 | k::ks,l=>k.putM m l::ZeI m ks l
end
theorem ZhU (m:Bool):∀ (ks:List Ex) (l:List Bd),ZeI m ks l=ks.map (·.putM m l)
 | [],_=>rfl
 | k::ks,l=>by rw [ZeI,Zp3,ZhU m ks l]
theorem Ex.putM_eq (m:Bool) (e:Ex) (l:List Bd):e.putM m l=if m=true∧e.op=9 then e else match (if e.op=1 then lastB l e.name else none) with
 | some x=>if m=true then .mk 9 { data:=#[] } [x] else x
 | none=>.mk e.op e.name (e.kids.map (·.putM m (if e.op=5 then l.filter (fun b=>!decide (b.1=e.name)) else l))):=by
 cases e; rw [Ex.putM,ZhU]; rfl
mutual
theorem Ex.putM_false:∀ (e:Ex) (l:List Bd),e.putM false l=e.put l
 | .mk op n ks,l=>by
   rw [Ex.putM,Ex.put,if_neg (by simp),ZeJ ks]
   split<;>simp_all
theorem ZeJ:∀ (ks:List Ex) (l:List Bd),ZeI false ks l=Zhb ks l
 | [],l=>rfl
 | k::ks,l=>by rw [ZeI,Zhb,Ex.putM_false k l,ZeJ ks l]
end
mutual
def Ex.wd:Ex→Prop
 | .mk _ _ ks=>ks.length≤1099511627776∧exsWd ks
def exsWd:List Ex→Prop
 | []=>True
 | k::ks=>k.wd∧exsWd ks
end
theorem ZjI:∀ {ks:List Ex},exsWd ks↔∀ k∈ks,k.wd
 | []=>by simp [exsWd]
 | k::ks=>by rw [exsWd,ZjI (ks:=ks)]; simp
theorem Ex.wd_iff {e:Ex}:e.wd↔e.kids.length≤1099511627776∧∀ k∈e.kids,k.wd:=by cases e; rw [Ex.wd,ZjI]; rfl
theorem Ex.wd_of {e:Ex}:e.sz≤1099511627776→e.wd:=by
 refine Ex.ind (p:=fun e=>e.sz≤1099511627776→e.wd) (fun e ih hs=>?_) e;have z:=e.sz_eq
 have:=YN e.kids
 exact Ex.wd_iff.2 ⟨by omega,fun k hk=>ih k hk (by have:=Ya hk; omega)⟩
def rpQ (H0:AH) (x:Ex):APost:=YI Tryz.prog [.cell 6 28] fun e H'=>∃ y,e=VE.ret y∧GhV H' y H0 (exV x)
theorem Zf2 {H0 H:AH} {t:Nat→VV} {r6 sp:Nat} {a b c:VV} {x:Ex} {e':TypeId} (h6:t 6=ptrV r6 0) (k6:H r6=some (.cells e' [a,b,c] sp)) (hg:GhV H (.agg [a,b,c]) H0 (exV x)):rpQ H0 x .ret ⟨t,[]⟩ H :=
 ZdC Yd h6 k6 (by rw [ZqL]; exact XT _ _ _ _) ⟨_,rfl,hg⟩
theorem ZjJ {op:Int} {nm:ByteArray} {kids:List Ex} {m:Bool} {l:List Bd} {t:Nat→VV} {H0 B:AH} {r3 r6:Nat} {z0 z1 z2:VV} (hN:kids.length≤1099511627776)
 (ih:∀ i (h:i<kids.length),PureF Tryz.prog 97 [exV kids[i],bdsV l,bV m] (exV (kids[i].putM m l)))
 (h1:t 1=bdsV l) (h2:t 2=bV m) (h3:t 3=ptrV r3 0) (h6:t 6=ptrV r6 0) (k3:B r3=some (.cells 28 [iV op,sV nm,encS exE kids] 0)) (k6:B r6=some (.cells 28 [z0,z1,z2] 0)) (n6:H0 r6=none) (hs:SubH H0 B) :
 ACx ⟨Tryz.prog,112,none⟩ c97_3 (rpQ H0 (.mk op nm (kids.map (·.putM m l)))) ⟨t,[]⟩ B:=by
 obtain ⟨ks,hks⟩:∃ ks,ks=kids.map (·.putM m l):=⟨_,rfl⟩
 have hkl:ks.length=kids.length:=by rw [hks]; simp
 have hki:∀ i (h:i<kids.length) (h':i<ks.length),kids[i].putM m l=ks[i]:=fun i h h'=>by simp only [hks,ZqR]
 rw [← hks];clear hks;refine ZV rfl (fun _ _ _ h=>h) ?_;delta c97_3 Zd Zb Zq Zr Zi Zg Zf
 (repeat' (first | (simp only [↓Zz,ZA,ptrV,ZpI,ZpJ,ZpT,Zp1,ZM,fillV,setAt,ZpL,ZZ,ZO,ZW,ZQ,YE,Zcr,Yc, *]) | (refine ZB fun zr zh=>?_; have zg:=zh; (try simp only [ZpO] at zg); (try have zn_k3:=ZpK k3 zh); (try have zn_k3:=ZpK k3 zg.2); (try have zn_k3:=ZpK k3 zg.2.2); (try have zn_k6:=ZpK k6 zh); (try have zn_k6:=ZpK k6 zg.2); (try have zn_k6:=ZpK k6 zg.2.2))))
 have hin:InB B (B.set zr (.cells 28 [iV op,sV nm,.lit (.slice none 0 0)] 0)) zr 28 [iV op,sV nm] [] 28 3 0 [] (.lit (.slice none 0 0)) _ :=
  InB.start (ZpP _ _ _) (ZpR zh) zh
 refine ZP (fun _ _ _ h=>h) (fun A H=>A.d=[]∧A.t 1=bdsV l∧A.t 2=bV m∧A.t 3=ptrV r3 0∧A.t 6=ptrV r6 0∧A.t 10=ptrV zr 0∧∃ (i:Nat) (v:VV) (Hb:AH),i≤kids.length∧A.t 11=iV i∧InB B H zr 28 [iV op,sV nm] [] 28 3 i (encC exE (ks.take i)) v Hb)
  (fun A _=>match A.t 11 with | .lit (.int _ i)=>((kids.length:Int)-i).toNat | _=>0) ?_ ?_
 ·exact ⟨rfl,(by simp only [ZC,ZpI,if_false, *]<;>rfl),(by simp only [ZC,ZpI,if_false, *]<;>rfl),(by simp only [ZC,ZpI,if_false, *]<;>rfl),(by simp only [ZC,ZpI,if_false, *]<;>rfl),(by simp only [ZC,ZpI,if_true,if_false, *]<;>rfl),0,_,_,by omega,(by simp only [ZC,ZpI,if_true,if_false, *]<;>rfl),hin⟩
 ·clear hin h1 h2 h3 h6;rintro ⟨t,d'⟩ H ⟨rfl,h1,h2,h3,h6,h10,i,v,Hb,hi,h11,hb⟩;dsimp only at h1 h2 h3 h6 h10 h11;have q10:=hb.at;have q3:=hb.sub' _ _ k3;delta b97_3 Za Zd Zb Ze Zn Zr Zk Zo Zq Zl Zg Zm Zc
  (repeat' (first | (simp only [↓Zz,ZA,ptrV,intV,ZpI,ZpJ,ZpT,Zqu,Zp1,reduceCtorEq,fillV,setAt,ZpL,ZH,XI,ZH,ZR,Yd,Ye,Yc,ZU,en_97, *]) | (refine ZX ?_ ?_<;>intro) | (refine ZJ mixed (fun _ _ _ _ e h=>⟨e.trans h.1,h.2⟩) _ (ZpN _) ?_) | (exact ZpN _) | (refine ZpQ (ih _ (by assumption)) ?_) | (with_reducible refine And.intro ?_ ?_)))
  ·have hlt:i<kids.length:=by assumption
   refine WH ZU Yc rfl (by omega) hb.own rfl rfl (by omega) (by omega) (fun v' H' ho=>?_);have hb2:=hb.next ho;have q10':=ho.sub _ _ hb.blk;have hc1:=ho.cells.1;have hc2:=ho.cells.2;clear hb q10 q3 ho
   (repeat' (first | (simp only [↓Zz,ZA,ptrV,ZpI,ZpJ,ZpT,setAt,ZR,szT_26, *]) | (with_reducible refine And.intro ?_ ?_)))
   all_goals rw [ZK (n:=(i:Int)+1) (by omega) (by omega)]
   ·rw [← Zkw (by omega)] at hb2;exact ⟨i+1,v',_,by omega,rfl,hb2⟩
   ·omega
  ·have hie:i=kids.length:=by omega
   subst hie;rw [Zqr (by omega)] at hb;refine WN (hb.ghost _ _) ?_;have n10:=hb.new;have hx:Blk.cells 28 ([iV op,sV nm]++[.slice false kids.length (encC exE ks)]) 0=.cells 28 [iV op,sV nm,encS exE ks] 0:=by rw [← hkl]; rfl
   rw [hx];clear hb q10 q3 hx;have d6:=ZpK k6 n10;refine ZV rfl (fun _ _ _ h=>h) ?_;delta c97_2 Zb Zg
   (repeat' (first | (simp only [↓Zz,ZA,ptrV,ZpI,ZpJ,ZpT,setAt,ZpL,Yd,YE, *])))
   exact Zf2 (by simp only [ZC,ZpI,if_false, *]<;>rfl) (ZpP _ _ _) (Zqq ((hs.of_set (hs.none n10)).of_set n6) _)
theorem Zb9 {l:List Bd} {n:ByteArray} {j:Nat} (h:j<l.length):(l.take (j+1)).filter (fun b=>!decide (b.1=n))=(l.take j).filter (fun b=>!decide (b.1=n))++(if l[j].1=n then [] else [l[j]]):=by
 rw [XB h,List.filter_append]
 congr 1
 by_cases hp:l[j].1=n<;>simp [hp]
theorem Ziw {op:Int} {nm:ByteArray} {kids:List Ex} {m:Bool} {l:List Bd} {t:Nat→VV} {H0 B:AH} {r3 r6:Nat} {z0 z1 z2:VV} (hN:kids.length≤1099511627776) (hl:l.length≤1099511627776)
 (ih:∀ (l:List Bd),l.length≤1099511627776→∀ i (h:i<kids.length),PureF Tryz.prog 97 [exV kids[i],bdsV l,bV m] (exV (kids[i].putM m l)))
 (h1:t 1=bdsV l) (h2:t 2=bV m) (h3:t 3=ptrV r3 0) (h6:t 6=ptrV r6 0) (k3:B r3=some (.cells 28 [iV op,sV nm,encS exE kids] 0)) (k6:B r6=some (.cells 28 [z0,z1,z2] 0)) (n6:H0 r6=none) (hs:SubH H0 B) :
 ACx ⟨Tryz.prog,112,none⟩ ZpA (rpQ H0 (.mk op nm (kids.map (·.putM m (if op=5 then l.filter (fun b=>!decide (b.1=nm)) else l))))) ⟨t,[]⟩ B:=by
 refine ZV rfl (fun _ _ _ h=>h) ?_;delta ZpA Zd Zb Zm Zr Zq Zc Zf;by_cases h5:op=5
 ·rw [if_pos h5];subst h5;have hlf:(l.filter fun b=>!decide (b.1=nm)).length≤1099511627776:=by have:=List.length_filter_le (fun b:Bd=>!decide (b.1=nm)) l; omega
  (repeat' (first | (simp only [↓Zz,ZA,ptrV,ZpI,ZpJ,ZpT,Zqu,Zp1,fillV,ZpL,ZH,ZH,ZO,ZQ,JL,Zaf, *])))
  refine ZP (fun _ _ _ h=>h) (fun A H=>A.d=[]∧A.t 1=bdsV l∧A.t 2=bV m∧A.t 3=ptrV r3 0∧A.t 6=ptrV r6 0∧∃ (i:Nat),i≤l.length∧A.t 9=iV i∧OutE B H 174 4 (A.t 8) ((l.take i).filter (fun b=>!decide (b.1=nm))).length (encC bdE ((l.take i).filter (fun b=>!decide (b.1=nm)))))
   (fun A _=>match A.t 9 with | .lit (.int _ i)=>((l.length:Int)-i).toNat | _=>0) ?_ ?_
  ·exact ⟨rfl,(by simp only [ZC,ZpI,if_false, *]<;>rfl),(by simp only [ZC,ZpI,if_false, *]<;>rfl),(by simp only [ZC,ZpI,if_false, *]<;>rfl),(by simp only [ZC,ZpI,if_false, *]<;>rfl),0,by omega,(by simp only [ZC,ZpI,if_true,if_false, *]<;>rfl),OutE.start (ZpN _)⟩
  ·clear h1 h2 h3 h6;rintro ⟨t,d'⟩ H ⟨rfl,h1,h2,h3,h6,i,hi,h9,ho⟩;dsimp only at h1 h2 h3 h6 h9 ho;have q3:=ho.sub _ _ k3;have hfl:=List.length_filter_le (fun b:Bd=>!decide (b.1=nm)) (l.take i);have htl:(l.take i).length≤l.length:=by rw [ZqI]; omega
   have hA:(((l.take i).filter (fun b=>!decide (b.1=nm))).length+1) * 64≤140737488355328∧((l.take i).filter (fun b=>!decide (b.1=nm))).length+1≤9223372036854775807:=by omega
   clear hfl htl;replace hA:=ZpM hA;delta b97_2 Za Ze Zn Zr Zk Zd Zb Zq Zl Zc Zm
   (repeat' (first | (simp only [↓Zz,ZA,↓XE,ptrV,intV,ZpI,ZpJ,ZpT,Zqu,Zp1,reduceCtorEq,fillV,setAt,ZpL,ZH,ZhD,ZH,ZdX,ZZ,ZW,ldT_174,JL,Zaf, *]) | (refine ZX ?_ ?_<;>intro) | (refine Yh ?_ ?_<;>intro) | (refine ZJ mixed (fun _ _ _ _ e h=>⟨e.trans h.1,h.2⟩) _ (ZpN _) ?_) | (with_reducible refine And.intro ?_ ?_)))
   ·have hlt:i<l.length:=by assumption
    have hne:¬ l[i].1=nm:=by simpa using (by assumption:(!decide (l[i].1=nm))=true)
    have e:=Zb9 (n:=nm) hlt;rw [if_neg hne] at e;refine ho.append1 JL Zaf rfl (by omega) rfl rfl hA.out.1 hA.out.2 (fun v2 H2 ho2=>?_)
    rw [show encC bdE ((l.take i).filter (fun b=>!decide (b.1=nm)))++[sV l[i].1,iV l[i].2.op,sV l[i].2.name,exsV l[i].2.kids]=encC bdE ((l.take (i+1)).filter (fun b=>!decide (b.1=nm))) from by rw [e,Yl]; rfl,
     show ((l.take i).filter (fun b=>!decide (b.1=nm))).length+1=((l.take (i+1)).filter (fun b=>!decide (b.1=nm))).length from by rw [e,Zqt]; rfl] at ho2
    (repeat' (first | (simp only [↓Zz,ZA,ptrV,ZpI,ZpJ, *]) | (with_reducible refine And.intro ?_ ?_)))
    all_goals rw [ZK (n:=(i:Int)+1) (by omega) (by omega)]
    ·exact ⟨i+1,by omega,rfl,ho2⟩
    ·omega
   ·have hlt:i<l.length:=by assumption
    have hne:l[i].1=nm:=by simpa using (by assumption:(!decide (l[i].1=nm))=false)
    have e:=Zb9 (n:=nm) hlt;rw [if_pos hne,ZqJ] at e;rw [ZK (n:=(i:Int)+1) (by omega) (by omega)];exact ⟨i+1,by omega,rfl,by rw [e]; exact ho⟩
   ·rw [ZK (n:=(i:Int)+1) (by omega) (by omega)];omega
   ·have hie:i=l.length:=by omega
    subst hie;rw [Zqr (ZpY _)] at ho;clear hA q3;refine WN (H':=B) (Ghost.slot (i:=8) (x':=bdsV (l.filter fun b=>!decide (b.1=nm))) (by simp only [ZC,ZpI,if_false]; exact ho.back)) ?_;clear ho;refine ZV rfl (fun _ _ _ h=>h) ?_;delta c97_1 Za Zc
    (repeat' (first | (simp only [↓Zz,ZA,ZpI,ZpJ, *])))
    exact ZjJ hN (ih _ hlf) (by simp only [ZC,ZpI,if_true,if_false, *]<;>rfl) (by simp only [ZC,ZpI,if_false, *]<;>rfl) (by simp only [ZC,ZpI,if_false, *]<;>rfl) (by simp only [ZC,ZpI,if_false, *]<;>rfl) k3 k6 n6 hs
 ·rw [if_neg h5]
  (repeat' (first | (simp only [↓Zz,ZA,ptrV,ZpI,ZpJ,ZpL,ZO,ZQ, *])))
  exact ZjJ hN (ih l hl) (by simp only [ZC,ZpI,if_false, *]<;>rfl) (by simp only [ZC,ZpI,if_false, *]<;>rfl) (by simp only [ZC,ZpI,if_false, *]<;>rfl) (by simp only [ZC,ZpI,if_false, *]<;>rfl) k3 k6 n6 hs
theorem Zom (m:Bool):∀ (n:Nat) (e:Ex) (l:List Bd),e.sz<n→e.wd→l.length≤1099511627776→PureF Tryz.prog 97 [exV e,bdsV l,bV m] (exV (e.putM m l)):=by
 intro n
 induction n with
 | zero=>intro e l h; omega
 | succ n ih =>
   intro e l h0 hs hl;have z1:=e.sz_eq;have hwd:=Ex.wd_iff.1 hs;have hN:=hwd.1;have ih':∀ (l:List Bd),l.length≤1099511627776→∀ i (h:i<e.kids.length),PureF Tryz.prog 97 [exV e.kids[i],bdsV l,bV m] (exV (e.kids[i].putM m l)):=fun l hl i h=>ih _ l (by have:=Ya (ZpW h); omega) (hwd.2 _ (ZpW h)) hl
   clear ih z1 hwd h0 hs;refine JN.pure fun H0=>?_
   refine ZE fd97 (by simp) ?_;show vc _ _ (rpQ H0 (e.putM m l)) _ _;delta c97 Zj Zi Za Zp Zr Zq Zb Zg Zd Zm Ze Zc;by_cases h9:m=true∧e.op=9
   ·obtain ⟨hm,h9⟩:=h9;have hp:e.putM m l=e:=by rw [e.putM_eq,if_pos ⟨hm,h9⟩]
    rw [hp];clear hp ih';subst hm;have h9':=ZpM h9
    (repeat' (first | (simp only [↓Zz,ZA,ptrV,ZpI,ZpJ,ZpT,ZD,setAt,ZpL,undef,ZO,Yd,ZQ,YE,Yc, *]) | (refine ZB fun zr zh=>?_; have zg:=zh; (try simp only [ZpO] at zg))))
    rename_i r3 n3 n3';refine Zf2 (by simp only [ZC,ZpI,if_true,if_false, *]<;>rfl) (ZpP _ _ _) ?_;rw [← h9];exact Zqq ((ZpR n3).of_set zg.2) _
   ·have hb9:(m && decide (e.op=9))=false:=by
     cases m with
     | false=>rfl
     | true=>simp only [Bool.true_and]; exact decide_eq_false fun h=>h9 ⟨rfl,h⟩
    have hX:=e.putM_eq m l;rw [if_neg h9] at hX;clear h9
    have hmid:∀ (op:Int) (nm:ByteArray),op=e.op→nm=e.name→¬ (op=1∧lastB l nm ≠ none)→e.putM m l=.mk op nm (e.kids.map (·.putM m (if op=5 then l.filter (fun b=>!decide (b.1=nm)) else l))):=by
     rintro op nm rfl rfl hno;rw [hX];by_cases h1:e.op=1
     ·have:lastB l e.name=none:=by
       cases h:lastB l e.name with
       | none=>rfl
       | some x=>exact absurd ⟨h1,by rw [h]; simp⟩ hno
      rw [if_pos h1,this]
     ·rw [if_neg h1]
    by_cases h1:e.op=1
    ·obtain ⟨X,hXe⟩:∃ X,X=e.putM m l:=⟨_,rfl⟩
     have hno:lastB l e.name=none→X=.mk 1 e.name (e.kids.map (·.putM m l)):=fun h=>by
      rw [hXe,hmid 1 e.name h1.symm rfl (fun h'=>h'.2 h),if_neg (by omega)]
     have hsome:∀ x,lastB l e.name=some x→X=if m=true then .mk 9 { data:=#[] } [x] else x:=fun x h=>by
      rw [hXe,hX,if_pos h1,h]
     rw [← hXe];clear hXe hX hmid;replace hno:=ZpM hno;replace hsome:=ZpM hsome;have w0:IntKind.i64.wrap ((l.length:Int)-1)=(l.length:Int)-1:=ZK (by omega) (by omega)
     have hgo:∀ (t:Nat→VV) (B:AH) (r3 r6:Nat) (z0 z1 z2:VV),t 1=bdsV l→t 2=bV m→t 3=ptrV r3 0→t 6=ptrV r6 0→t 7=iV ((l.length:Int)-1)→B r3=some (.cells 28 [iV 1,sV e.name,encS exE e.kids] 0)→B r6=some (.cells 28 [z0,z1,z2] 0)→H0 r6=none→SubH H0 B →
      ACx ⟨Tryz.prog,112,none⟩ (.loop b97_1) (Xh 0 (thenA (ACx ⟨Tryz.prog,112,none⟩ ZpA (rpQ H0 X)) (rpQ H0 X))) ⟨t,[]⟩ B:=by
      clear w0 h1 hb9;intro t B r3 r6 z0 z1 z2 t1 t2 t3 t6 t7 k3 k6 n6 hs
      refine ZP (fun _ _ _ h=>h) (fun A H=>H=B∧A.d=[]∧A.t 1=bdsV l∧A.t 2=bV m∧A.t 3=ptrV r3 0∧A.t 6=ptrV r6 0∧∃ k:Nat,k≤l.length∧A.t 7=iV ((k:Int)-1)∧∀ j (h:j<l.length),k≤j→¬ l[j].1=e.name)
       (fun A _=>match A.t 7 with | .lit (.int _ i)=>(i+1).toNat | _=>0) ?_ ?_
      ·exact ⟨rfl,rfl,t1,t2,t3,t6,l.length,by omega,t7,fun j h hj=>by omega⟩
      ·clear t1 t2 t3 t6 t7;rintro ⟨t,d⟩ H ⟨rfl,rfl,t1,t2,t3,t6,k,hk,t7,hall⟩;dsimp only at t1 t2 t3 t6 t7;delta b97_1 Za Zm Zr Zk Zd Zb Zn Zp Zq Zg Zc;cases k with
       | zero =>
         replace t7:t 7=iV (-1):=by rw [t7]; rfl
         have hX:=hno.out (Zmv fun j h=>hall j h (Nat.zero_le _));rw [hX];clear hX hall
         (repeat' (first | (simp only [↓Zz,ZA,ptrV,ZpJ,Zqi,ZqG, *])))
         have:=Ziw (op:=1) (nm:=e.name) (kids:=e.kids) (m:=m) (l:=l) (t:=upd (upd t 25 (iV (-1))) 26 (.lit (.bool false))) hN hl ih' (by simp only [ZC,ZpI,if_false, *]<;>rfl) (by simp only [ZC,ZpI,if_false, *]<;>rfl) (by simp only [ZC,ZpI,if_false, *]<;>rfl) (by simp only [ZC,ZpI,if_false, *]<;>rfl) k3 k6 n6 hs
         rw [if_neg (by omega)] at this;exact this
       | succ j =>
         replace t7:t 7=iV j:=by rw [t7]; congr 3; omega
         have hj:j<l.length:=by omega
         by_cases hn:l[j].1=e.name
         ·have hX:=hsome.out _ (Zmw hj hn fun i h hi=>hall i h (by omega));clear hall;cases m with
          | false =>
            rw [hX,if_neg (by simp)];clear hX
            (repeat' (first | (simp only [↓Zz,ZA,↓Xw,ptrV,ZpI,ZpJ,ZpT,reduceCtorEq,setAt,ZpL,ZhD,ZdX,ZZ,Zjm,ZW,Yd,YE,JL, *]) | (refine ZJ mixed (fun _ _ _ _ e h=>⟨e.trans h.1,h.2⟩) _ (ZpN _) ?_)))
            exact Zf2 (by simp only [ZC,ZpI,if_false, *]<;>rfl) (ZpP _ _ _) (Zqq (hs.of_set n6) _)
          | true =>
            rw [hX,if_pos rfl];clear hX
            (repeat' (first | (simp only [↓Zz,ZA,↓Xw,ptrV,ZpI,ZpJ,ZpT,Zqu,Zp1,reduceCtorEq,ZM,fillV,setAt,ZpL,ZdB,ZH,ZhD,ZH,ZdX,ZZ,Zjm,ZW,Yd,YE,Zcr,Yc,JL,ZU, *]) | (refine ZJ mixed (fun _ _ _ _ e h=>⟨e.trans h.1,h.2⟩) _ (ZpN _) ?_)))
            refine Zf2 (by simp only [ZC,ZpI,if_false, *]<;>rfl) (ZpP _ _ _) ?_;refine GhV.agg (ZpZ (Zp8 _ _) (ZpZ (Zp8 _ _) (ZpZ ?_ (GhL.nil _))));have e1:encS exE [l[j].2]=.slice false 1 [iV l[j].2.op,sV l[j].2.name,encS exE l[j].2.kids]:=by rw [encS,YF,Za1,ZqJ,Jt]; rfl
            show GhV _ _ _ (encS exE [l[j].2]);rw [e1];exact (GhV.imm _).trans (Zqq (hs.of_set n6) _)
         ·have hall':∀ i (h:i<l.length),j≤i→¬ l[i].1=e.name:=fun i h hi=>by
           rcases Zqm j i with h' | h'
           ·exact hall i h (by omega)
           ·obtain rfl:i=j:=by omega
            exact hn
          clear hall
          (repeat' (first | (simp only [↓Zz,ZA,↓Xw,ptrV,ZpI,ZpJ,ZN,ZD,ZpL,undef,ZhD,ZdX,ZZ,ZW,JL, *]) | (refine ZJ mixed (fun _ _ _ _ e h=>⟨e.trans h.1,h.2⟩) _ (ZpN _) ?_) | (with_reducible refine And.intro ?_ ?_)))
          all_goals rw [ZK (n:=(j:Int)-1) (by omega) (by omega)]
          ·exact ⟨j,by omega,rfl,hall'⟩
          ·omega
     clear hno hsome ih';cases m with
     | false =>
       (repeat' (first | (simp only [↓Zz,ZA,ptrV,intV,ZpI,ZpJ,reduceCtorEq,ZN,ZD,ZpL,undef,ZO,ZQ,Yc,JL, *]) | (refine ZB fun zr zh=>?_; have zg:=zh; (try simp only [ZpO] at zg))))
       rename_i r3 n3 n3';exact hgo _ _ r3 zr _ _ _ (by simp only [ZC,ZpI,if_false, *]<;>rfl) (by simp only [ZC,ZpI,if_false, *]<;>rfl) (by simp only [ZC,ZpI,if_true,if_false, *]<;>rfl) (by simp only [ZC,ZpI,if_true,if_false, *]<;>rfl) (by simp only [ZC,ZpI,if_true,if_false, *]<;>rfl) (by simp only [ZpU, *,if_true,if_false]<;>rfl) (ZpP _ _ _) zg.2 ((ZpR n3).of_set zg.2)
     | true =>
       have h9:¬ e.op=9:=by omega
       (repeat' (first | (simp only [↓Zz,ZA,ptrV,intV,ZpI,ZpJ,reduceCtorEq,ZD,ZpL,undef,Zp5,ZO,ZQ,Yc,JL, *]) | (refine ZB fun zr zh=>?_; have zg:=zh; (try simp only [ZpO] at zg))))
       rename_i r3 n3 n3';exact hgo _ _ r3 zr _ _ _ (by simp only [ZC,ZpI,if_false, *]<;>rfl) (by simp only [ZC,ZpI,if_false, *]<;>rfl) (by simp only [ZC,ZpI,if_true,if_false, *]<;>rfl) (by simp only [ZC,ZpI,if_true,if_false, *]<;>rfl) (by simp only [ZC,ZpI,if_true,if_false, *]<;>rfl) (by simp only [ZpU, *,if_true,if_false]<;>rfl) (ZpP _ _ _) zg.2 ((ZpR n3).of_set zg.2)
    ·have hX:=hmid e.op e.name rfl rfl (fun h=>h1 h.1);rw [hX];clear hX hmid;cases m with
     | false =>
       (repeat' (first | (simp only [↓Zz,ZA,ptrV,ZpI,ZpJ,ZN,ZD,ZpL,undef,ZO,ZQ,Yc, *]) | (refine ZB fun zr zh=>?_; have zg:=zh; (try simp only [ZpO] at zg))))
       rename_i r3 n3 n3';exact Ziw hN hl ih' (by simp only [ZC,ZpI,if_false, *]<;>rfl) (by simp only [ZC,ZpI,if_false, *]<;>rfl) (by simp only [ZC,ZpI,if_true,if_false, *]<;>rfl) (by simp only [ZC,ZpI,if_true,if_false, *]<;>rfl) (by simp only [ZpU, *,if_true,if_false]<;>rfl) (ZpP _ _ _) zg.2 ((ZpR n3).of_set zg.2)
     | true =>
       have h9:¬ e.op=9:=by simpa using hb9
       (repeat' (first | (simp only [↓Zz,ZA,ptrV,ZpI,ZpJ,ZD,ZpL,undef,ZO,ZQ,Yc, *]) | (refine ZB fun zr zh=>?_; have zg:=zh; (try simp only [ZpO] at zg))))
       rename_i r3 n3 n3';exact Ziw hN hl ih' (by simp only [ZC,ZpI,if_false, *]<;>rfl) (by simp only [ZC,ZpI,if_false, *]<;>rfl) (by simp only [ZC,ZpI,if_true,if_false, *]<;>rfl) (by simp only [ZC,ZpI,if_true,if_false, *]<;>rfl) (by simp only [ZpU, *,if_true,if_false]<;>rfl) (ZpP _ _ _) zg.2 ((ZpR n3).of_set zg.2)
end Go.PV.YtglpmlbbaedbiaaGreat
end
section
open List renaming drop_eq_getElem_cons→Zql
namespace Go.PV.YtglpmlbbaedbiaaGreat
open Go Go.Proofs
def ZeK (p:Pr) (j:Nat):ByteArray:=match p.funs[j]? with | some f=>f.name | none=>noNm
def bdL (ns:List ByteArray) (es:List Ex):List Bd:=(ns.zip es).reverse
abbrev outB (x:ByteArray) (l:List Bd):List Bd:=l.filter (fun b=>!decide (b.1=x))
mutual
def Val.ex (p:Pr):Val→Ex
 | .built n ks=>.mk 3 n (ZL p ks)
 | .clo x b ns vs=>.mk 5 x [b.putM true (outB x (bdL ns (ZL p vs)))]
 | .part j us=>if us.length=0 then .mk 2 (ZeK p j) [] else .mk 4 noNm (.mk 2 (ZeK p j) []::ZL p us)
def ZL (p:Pr):List Val→List Ex
 | []=>[]
 | v::l=>v.ex p::ZL p l
end
theorem Xg (p:Pr):∀ l:List Val,ZL p l=l.map (Val.ex p)
 | []=>rfl
 | v::l=>by rw [ZL,Xg p l]; rfl
theorem Xu (p:Pr) (l:List Val):(ZL p l).length=l.length:=by rw [Xg,List.length_map]
mutual
def Ex.full:Ex→Nat
 | .mk op _ ks=>if op=9 then exsHd ks else 1+XQ ks
def exsHd:List Ex→Nat
 | []=>0
 | k::_=>k.full
def XQ:List Ex→Nat
 | []=>0
 | k::ks=>k.full+XQ ks
end
theorem Ex.full_eq (e:Ex):e.full=if e.op=9 then exsHd e.kids else 1+XQ e.kids:=by cases e; rw [Ex.full]; rfl
theorem ZcI {l:List Ex} {i:Nat} (h:i<l.length):XQ (l.drop i)=l[i].full+XQ (l.drop (i+1)):=by rw [Zql h,XQ]
structure TL (a:Int) (n:Nat) (b:Int):Prop where
 neg:a<0→b=a
 le:0≤a→(n:Int)≤a→b=a-n
 gt:0≤a→a<n→b<0
 lo : -2≤b
 hi:b≤a
theorem TL.zero {a:Int} (h : -2≤a):TL a 0 a:=⟨fun _=>rfl,fun _ _=>by simp,fun h1 h2=>by simp at h2; omega,h,Int.le_refl _⟩
theorem TL.trans {a b c:Int} {n m:Nat} (h:TL a n b) (k:TL b m c):TL a (n+m) c:=by
 obtain ⟨h1,h2,h3,h4,h5⟩:=h;obtain ⟨k1,k2,k3,k4,k5⟩:=k;refine ⟨fun h=>?_,fun h0 h=>?_,fun h0 h=>?_,k4,by omega⟩
 ·rw [k1 (by rw [h1 h]; exact h),h1 h]
 ·have:=h2 h0 (by omega)
  have:=k2 (by omega) (by omega)
  omega
 ·by_cases hn:(n:Int)≤a
  ·have:=h2 h0 hn
   exact k3 (by omega) (by omega)
  ·have:=h3 h0 (by omega)
   have:=k1 this
   omega
theorem TL.one {a:Int} (h:0≤a):TL a 1 (a-1):=⟨fun _=>by omega,fun _ _=>by simp,fun _ h=>by simp at h; omega,by omega,by omega⟩
theorem TL.two {a:Int} (h:0≤a):TL a 2 (a-1-1):=⟨fun _=>by omega,fun _ _=>by simp; omega,fun _ h=>by simp at h; omega,by omega,by omega⟩
theorem TL.stop {a:Int} {n:Nat} (h:a<0) (h2 : -2≤a):TL a n a:=⟨fun _=>rfl,fun h0=>by omega,fun h0=>by omega,h2,Int.le_refl _⟩
def EnvR (p:Pr) (eo:EnvO) (l:List Bd):Prop:=∀ s,lastB l s=(eoF eo s).map (Val.ex p)
theorem ZjK (x s:ByteArray) (l:List Bd):lastB (outB x l) s=if s=x then none else lastB l s:=by
 unfold lastB outB;rw [← List.filter_reverse]
 induction l.reverse with
 | nil=>simp
 | cons b m ih =>
   rw [List.filter_cons,List.find?_cons];by_cases h1:b.1=x
   ·rw [if_neg (by simp [h1]),ih];by_cases h2:s=x
    ·simp [h2]
    ·rw [if_neg h2,if_neg h2]
     have:decide (b.1=s)=false:=by simp; intro h; exact h2 (by rw [← h,h1])
     rw [this]
   ·rw [if_pos (by simp [h1]),List.find?_cons];by_cases h3:b.1=s
    ·have:decide (b.1=s)=true:=by simp [h3]
     rw [this];have h2:¬ s=x:=fun h=>h1 (by rw [h3,h])
     rw [if_neg h2]
    ·have:decide (b.1=s)=false:=by simp [h3]
     rw [this];exact ih
theorem EnvR.lam {p:Pr} {eo:EnvO} {l:List Bd} (h:EnvR p eo l) (x:ByteArray):EnvR p ((x,none)::eo) (outB x l):=fun s=>by
 rw [ZjK];show _=Option.map _ (if x=s then none else eoF eo s);by_cases hx:s=x
 ·rw [if_pos hx,if_pos hx.symm]; rfl
 ·rw [if_neg hx,if_neg (fun e=>hx e.symm),h s]
theorem EnvR.of (p:Pr):∀ (ns:List ByteArray) (vs:List Val),EnvR p (eoOf ns vs) (bdL ns (ZL p vs)):=by
 have:∀ (ns:List ByteArray) (vs:List Val) (s:ByteArray),((ns.zip (ZL p vs)).find? fun b=>decide (b.1=s)).map (·.2)=(eoF (eoOf ns vs) s).map (Val.ex p):=by
  intro ns
  induction ns with
  | nil=>intro vs s; cases vs<;>rfl
  | cons n ns ih =>
    intro vs s;cases vs with
    | nil=>rfl
    | cons v vs =>
      rw [ZL,List.zip_cons_cons,List.find?_cons];show _=Option.map _ (if n=s then some v else eoF (eoOf ns vs) s);by_cases h:n=s
      ·rw [show decide ((n,v.ex p).1=s)=true by simp [h],if_pos h]; rfl
      ·rw [show decide ((n,v.ex p).1=s)=false by simp [h],if_neg h]; exact ih vs s
 intro ns vs s;unfold lastB bdL;rw [List.reverse_reverse];exact this ns vs s
theorem full_put {e:Ex} (h9:¬ e.op=9) (l:List Bd):(e.putM true l).full=match (if e.op=1 then lastB l e.name else none) with
 | some x=>x.full
 | none=>1+XQ (e.kids.map (·.putM true (if e.op=5 then outB e.name l else l))):=by
 rw [Ex.putM_eq,if_neg (fun h=>h9 h.2)];cases (if e.op=1 then lastB l e.name else none) with
 | some x=>dsimp only; rw [if_pos rfl,Ex.full_eq]; rfl
 | none=>dsimp only; rw [Ex.full_eq]; exact if_neg h9
end Go.PV.YtglpmlbbaedbiaaGreat
end
section
open Go.PV.AH renaming set_none→ZpO,get→ZpU,set_same→ZpP
open Go.PV.GhL renaming cons→ZpZ
open Go.PV.GhV renaming forget→Zqq,refl→Zp8
open Go.PV.Hold renaming mk→ZpM
open Go.PV.PureF renaming use→ZpQ
open Go.PV.SubH renaming new→ZpR,refl→ZpN
open List renaming drop_eq_getElem_cons→Zql,getElem_mem→ZpW,drop→ZpL,drop_eq_nil_of_le→Zp9,eq_nil_of_length_eq_zero→ZqD,length_append→Zqt
open Nat renaming reduceEqDiff→ZpI,reduceLT→ZpJ,reduceAdd→ZpT,reduceMul→Zqu,reduceLeDiff→Zp1,zero_add→Zp2
open Option renaming bind_some→Zqg,map_some→Zp6
set_option maxRecDepth 20000
set_option maxHeartbeats 4000000
namespace Go.PV.YtglpmlbbaedbiaaGreat
open Go Go.Proofs
mutual
def Pa.mat:Pa→Ex→List Bd→List Bd × Bool
 | .mk c n ks,e,l=>if c=true then (if e.op=3∧e.name=n∧e.kids.length=ks.length then Wf ks e.kids l else (l,false)) else (l++[(n,e)],true)
def Wf:List Pa→List Ex→List Bd→List Bd × Bool
 | [],_,l=>(l,true)
 | p::ps,e::es,l=>if (p.mat e l).2=true then Wf ps es (p.mat e l).1 else (l,false)
 | _::_,[],l=>(l,false)
end
theorem Pa.mat_eq (p:Pa) (e:Ex) (l:List Bd):p.mat e l=if p.con=true then (if e.op=3∧e.name=p.name∧e.kids.length=p.kids.length then Wf p.kids e.kids l else (l,false)) else (l++[(p.name,e)],true):=by
 cases p; rw [Pa.mat]; rfl
mutual
theorem Pa.mat_parts:∀ (p:Pa) (e:Ex) (l:List Bd),(p.mat e l).2=(p.parts e l).2∧((p.parts e l).2=true→(p.mat e l).1=(p.parts e l).1)
 | .mk c n ks,e,l=>by
   have:=Zfx ks e.kids l
   rw [Pa.mat,Pa.parts];split
   ·split
    ·exact this
    ·simp
   ·simp
theorem Zfx:∀ (ps:List Pa) (es:List Ex) (l:List Bd),(Wf ps es l).2=(Xq ps es l).2∧((Xq ps es l).2=true→(Wf ps es l).1=(Xq ps es l).1)
 | [],_,l=>by simp [Wf,Xq]
 | p::ps,e::es,l=>by
   obtain ⟨h1,h2⟩:=Pa.mat_parts p e l;rw [Wf,Xq,h1];generalize hr:p.parts e l=r at *
   obtain ⟨l',b⟩:=r;cases b with
   | true =>
     simp only [if_true];rw [h2 rfl];exact Zfx ps es l'
   | false=>simp
 | _::_,[],l=>by simp [Wf,Xq]
end
mutual
theorem Pa.mat_len:∀ (p:Pa) (e:Ex) (l:List Bd),(p.mat e l).1.length≤l.length+p.sz
 | .mk c n ks,e,l=>by
   have:=ZhV ks e.kids l
   rw [Pa.mat,Pa.sz];split
   ·split
    ·omega
    ·simp
   ·simp
theorem ZhV:∀ (ps:List Pa) (es:List Ex) (l:List Bd),(Wf ps es l).1.length≤l.length+pasSz ps
 | [],_,l=>by simp [Wf]
 | p::ps,e::es,l=>by
   have h1:=Pa.mat_len p e l;have h2:=ZhV ps es (p.mat e l).1;rw [Wf,pasSz];split
   ·omega
   ·simp
 | _::_,[],l=>by simp [Wf]
end
theorem ZgN {ps:List Pa} {es:List Ex} {l:List Bd} {i:Nat} (h:i<ps.length) (h':i<es.length):Wf (ps.drop i) (es.drop i) l=if (ps[i].mat es[i] l).2=true then Wf (ps.drop (i+1)) (es.drop (i+1)) (ps[i].mat es[i] l).1 else (l,false):=by
 rw [Zql h,Zql h',Wf]
theorem Zkb:∀ (n:Nat) (p:Pa) (e:Ex) (l:List Bd),p.sz<n→l.length+p.sz≤1099511627776→PureF Tryz.prog 131 [paV p,exV e,bdsV l] (prtV (p.mat e l)):=by
 intro n
 induction n with
 | zero=>intro p e l h; omega
 | succ n ih =>
   intro p e l h0 hl;have z1:=p.sz_eq;have z2:=e.sz_eq;have hkl:=XY p.kids;have hel:=YN e.kids;have ih':∀ i (h:i<p.kids.length) (h':i<e.kids.length) (l:List Bd),l.length+p.kids[i].sz≤1099511627776→PureF Tryz.prog 131 [paV p.kids[i],exV e.kids[i],bdsV l] (prtV (p.kids[i].mat e.kids[i] l)):=fun i h h' l hl=>ih _ _ l (by have:=Xm (ZpW h); omega) hl
   refine JN.pure fun H0=>?_
   refine ZE fd131 (by simp) ?_;delta c131 Zj Zq Zd Zb Zr Za Zl Zc Zm Zp Zf;rw [p.mat_eq];by_cases hc:p.con=true
   ·rw [if_pos hc];have hzl:l.length+pasSz p.kids≤1099511627776:=by omega
    have hkN:p.kids.length≤1099511627776:=by omega
    clear ih hl z1 z2 hkl hel h0;by_cases h3:e.op=3
    ·by_cases hn:e.name=p.name
     ·by_cases hk:e.kids.length=p.kids.length
      ·rw [if_pos ⟨h3,hn,hk⟩];obtain ⟨R,hR⟩:∃ R,R=Wf p.kids e.kids l:=⟨_,rfl⟩
       rw [← hR];replace hR:=ZpM hR;replace hzl:=ZpM hzl
       (repeat' (first | (simp only [↓Zz,ZA,↓XE,ptrV,intV,ZpI,ZpJ,reduceCtorEq,ZD,ZpL,undef,Xx,ZR,Wl,Wz,ZO,ZZ,Xk,Ye,Zat,ZW,ZQ,YQ,ZU, *]) | (refine ZB fun zr zh=>?_; have zg:=zh; (try simp only [ZpO] at zg))))
       rename_i r1 n1 n1';have z2:=zg.2
       refine ZP (fun _ _ _ h=>h) (fun A H'=>H'=(H0.set r1 (.cells 126 [bV true,sV p.name,encS paE p.kids] 0)).set zr (.cells 28 [iV 3,sV p.name,encS exE e.kids] 0)∧A.d=[]∧A.t 3=ptrV r1 0∧A.t 4=ptrV zr 0∧∃ (i:Nat) (m:List Bd),i≤p.kids.length∧A.t 8=iV i∧A.t 2=bdsV m∧m.length+pasSz (p.kids.drop i)≤1099511627776∧R=Wf (p.kids.drop i) (e.kids.drop i) m)
        (fun A _=>match A.t 8 with | .lit (.int _ i)=>((p.kids.length:Int)-i).toNat | _=>0) ?_ ?_
       ·exact ⟨rfl,rfl,(by simp only [ZC,ZpI,if_true,if_false, *]<;>rfl),(by simp only [ZC,ZpI,if_true,if_false, *]<;>rfl),0,l,by omega,(by simp only [ZC,ZpI,if_true,if_false, *]<;>rfl),(by simp only [ZC,ZpI,if_false, *]<;>rfl),hzl.out,hR.out⟩
       ·clear hR hzl;rintro ⟨t,d⟩ H' ⟨hH',rfl,h3',h4',i,m,hi,h8,h2,hml,hR⟩;dsimp only at h3' h4' h8 h2;have hs0:SubH H0 H':=by rw [hH']; exact (ZpR n1).of_set z2
        have q3:H' r1=some (.cells 126 [bV true,sV p.name,encS paE p.kids] 0):=by rw [hH']; exact (by simp only [ZpU, *,if_true,if_false]<;>rfl)
        have q4:H' zr=some (.cells 28 [iV 3,sV p.name,encS exE e.kids] 0):=by rw [hH']; exact ZpP _ _ _
        clear n1' zg zh;rw [← hH'];clear hH';delta b131_1 Za Zd Zb Ze Zn Zr Zk Zo Zh Zc Zq Zm;by_cases hlt:i<p.kids.length
        ·have hlt':i<e.kids.length:=by omega
         rw [ZgN hlt hlt'] at hR;have hd:=ZbC hlt;have hil:(i:Int)<(p.kids.length:Int):=by omega
         have hil':(i:Int)<(e.kids.length:Int):=by omega
         have hcl:=ih' i hlt hlt' m (by omega);have hpl:=Pa.mat_len p.kids[i] e.kids[i] m;generalize p.kids[i].mat e.kids[i] m=r at *
         obtain ⟨m',b'⟩:=r;simp only at hpl;have hnew:=ZpM (show m'.length+pasSz (p.kids.drop (i+1))≤1099511627776 by omega);clear hd hml ih' h3 hn hk;cases b' with
         | true =>
           replace hR:=ZpM hR
           (repeat' (first | (simp only [↓Zz,ZA,ZI,ptrV,intV,ZpI,ZpJ,reduceCtorEq,ZpL,Wx,XI,Xx,ZR,Xk,Zay,Ye,Yd,YQ,ZU,Zna, *]) | (refine ZJ mixed (fun _ _ _ _ e h=>⟨e.trans h.1,h.2⟩) _ (ZpN _) ?_) | (exact ZpN _) | (refine ZpQ (hcl) ?_) | (with_reducible refine And.intro ?_ ?_)))
           all_goals rw [ZK (n:=(i:Int)+1) (by omega) (by omega)]
           ·exact ⟨i+1,m',by omega,rfl,rfl,hnew.out,by rw [hR.out]; rfl⟩
           ·omega
         | false =>
           have hR:R=(m,false):=by rw [hR]; rfl
           rw [hR];clear hR
           (repeat' (first | (simp only [↓Zz,ZA,ZI,ptrV,intV,ZpI,ZpJ,reduceCtorEq,ZpL,Wx,XI,Xx,ZR,Xk,Zay,Ye,Yd,YQ,ZU,Zna, *]) | (refine ZJ mixed (fun _ _ _ _ e h=>⟨e.trans h.1,h.2⟩) _ (ZpN _) ?_) | (exact ZpN _) | (refine ZpQ (hcl) ?_) | (with_reducible refine And.intro ?_ ?_)))
           exact Yo rfl (by simp only [resV,YY,YX,ZC,ZpI,if_true,if_false,Zqg,Zp6,tupV, *]<;>rfl) ⟨_,rfl,Zqq hs0 _⟩
        ·rw [Zp9 (by omega)] at hR;have hR:R=(m,true):=by rw [hR]; rfl
         rw [hR];clear hR h3 hn hk
         (repeat' (first | (simp only [↓Zz,ZA,ptrV,intV,ZpI,ZpJ,reduceCtorEq,ZpL,Xx,Xk,YQ, *]) | (refine ZV rfl (fun _ _ _ h=>h) ?_)))
         delta c131_1 Za Zc Zq
         (repeat' (first | (simp only [↓Zz,ZA,ZpI,ZpJ, *])))
         exact Yo rfl (by simp only [resV,YY,YX,ZC,ZpI,if_true,if_false,Zqg,Zp6,tupV, *]<;>rfl) ⟨_,rfl,Zqq hs0 _⟩
      ·rw [if_neg (fun h=>hk h.2.2)];have hk':¬ (e.kids.length:Int)=(p.kids.length:Int):=by omega
       (repeat' (first | (simp only [↓Zz,ZA,↓XE,ptrV,intV,ZpI,ZpJ,reduceCtorEq,ZD,ZpL,undef,Xx,ZR,Wl,Wz,ZO,ZZ,Xk,Ye,Zat,ZW,ZQ,YQ,ZU, *]) | (refine ZB fun zr zh=>?_; have zg:=zh; (try simp only [ZpO] at zg))))
       rename_i r1 n1 n1';exact Yo rfl (by simp only [resV,YY,YX,ZC,ZpI,if_true,if_false,Zqg,Zp6,tupV, *]<;>rfl) ⟨_,rfl,Zqq ((ZpR n1).of_set zg.2) _⟩
     ·rw [if_neg (fun h=>hn h.2.1)]
      (repeat' (first | (simp only [↓Zz,ZA,↓XE,ptrV,ZpI,ZpJ,ZN,ZD,ZpL,undef,Wl,Wz,ZO,ZZ,Zat,ZW,ZQ, *]) | (refine ZB fun zr zh=>?_; have zg:=zh; (try simp only [ZpO] at zg))))
      rename_i r1 n1 n1';exact Yo rfl (by simp only [resV,YY,YX,ZC,ZpI,if_true,if_false,Zqg,Zp6,tupV, *]<;>rfl) ⟨_,rfl,Zqq ((ZpR n1).of_set zg.2) _⟩
    ·rw [if_neg (fun h=>h3 h.1)]
     (repeat' (first | (simp only [↓Zz,ZA,ptrV,ZpI,ZpJ,ZN,ZD,ZpL,undef,Wl,ZO,Zat,ZQ, *]) | (refine ZB fun zr zh=>?_; have zg:=zh; (try simp only [ZpO] at zg))))
     rename_i r1 n1 n1';exact Yo rfl (by simp only [resV,YY,YX,ZC,ZpI,if_true,if_false,Zqg,Zp6,tupV, *]<;>rfl) ⟨_,rfl,Zqq ((ZpR n1).of_set zg.2) _⟩
   ·have hc':p.con=false:=by simpa using hc
    rw [if_neg hc];have hb1:(l.length+1) * 72≤140737488355328:=by omega
    clear ih' z1 z2 hkl hel hc h0
    (repeat' (first | (simp only [↓Zz,ZA,ptrV,ZpI,ZpJ,ZpT,Zqu,Zp1,ZD,ZM,fillV,setAt,ZpL,undef,ZH,ZH,Wl,Wz,Yd,Zat,ZW,Zaf,ZnM,JL, *]) | (refine ZJ mixed (fun _ _ _ _ e h=>⟨e.trans h.1,h.2⟩) _ (ZpN _) ?_) | (refine ZB fun zr zh=>?_; have zg:=zh; (try simp only [ZpO] at zg))))
    rename_i r1 n1 n1';have hs0:=(ZpR n1 (b:=.cells 126 [bV false,sV p.name,encS paE p.kids] 0)).of_set (b:=.cells 28 [iV e.op,sV e.name,encS exE e.kids] 0) zg.2;refine (OutE.start (ZpN _)).append JL Zaf rfl (by omega) (Zex (enc:=bdE) (k:=4) (fun _=>rfl) _ false l) (ZdE bd_one l) (by omega) (by omega) (fun h0=>by rw [ZqD h0]; rfl) (fun v' H' ho=>?_);have hos:=ho.sub
    (repeat' (first | (simp only [↓Zz,ZA,ZpI,ZpJ, *])))
    have ho':OutE ((H0.set r1 (.cells 126 [bV false,sV p.name,encS paE p.kids] 0)).set zr (.cells 28 [iV e.op,sV e.name,encS exE e.kids] 0)) H' 174 4 v' l.length (encC bdE l):=by rw [Zp2,List.nil_append] at ho; exact ho
    clear ho;have hA:(l.length+1) * 64≤140737488355328∧l.length+1≤9223372036854775807:=by omega
    refine ho'.append1 (xs:=[VV.lit (.string p.name),iV e.op,sV e.name,encS exE e.kids]) JL Zaf rfl (by omega) rfl rfl hA.1 hA.2 (fun v2 H2 ho2=>?_);have hg:=ho2.back.trans (Zqq hs0 _);have he:encC bdE l++[VV.lit (.string p.name),iV e.op,sV e.name,encS exE e.kids]=encC bdE (l++[(p.name,e)]):=by rw [Yl]; rfl
    have hn:(l++[(p.name,e)]).length=l.length+1:=by rw [Zqt]; rfl
    rw [he,← hn] at hg;clear ho' ho2 he hn hA
    (repeat' (first | (simp only [↓Zz,ZA,ZpI,ZpJ, *])))
    exact Yo rfl (by simp only [resV,YY,YX,ZC,ZpI,if_true,if_false,Zqg,Zp6,tupV, *]<;>rfl) ⟨_,rfl,GhV.tuple (ZpZ hg (ZpZ (Zp8 _ _) (GhL.nil _)))⟩
end Go.PV.YtglpmlbbaedbiaaGreat
end
section
open Bool renaming and_self→Zqo
open List renaming eq_nil_of_length_eq_zero→ZqD,append_nil→ZqJ,getElem?_eq_getElem→ZqC,getElem_mem→ZpW,length_cons→Zqb
namespace Go.PV.YtglpmlbbaedbiaaGreat
open Go Go.Proofs
theorem Zl0 (n:ByteArray) (ns:List ByteArray) (x:Ex) (es:List Ex):bdL (n::ns) (x::es)=bdL ns es++[(n,x)]:=by
 unfold bdL;rw [List.zip_cons_cons,List.reverse_cons]
abbrev envB (p:Pr) (e:Env):List Bd:=bdL e.1 (ZL p e.2)
theorem ex_op {p:Pr} {v:Val} (h:(v.ex p).op=3):∃ m us,v=.built m us:=by
 cases v with
 | built m us=>exact ⟨m,us,rfl⟩
 | clo x b ns vs=>rw [Val.ex] at h; exact absurd h (show ¬ (5:Int)=3 by decide)
 | part j us =>
   rw [Val.ex] at h;split at h
   ·exact absurd h (show ¬ (2:Int)=3 by decide)
   ·exact absurd h (show ¬ (4:Int)=3 by decide)
mutual
theorem Pa.mat_mtV (p:Pr):∀ (k:Pa) (v:Val) (e:Env),(k.mat (v.ex p) (envB p e)).2=(k.mtV v e).2∧((k.mtV v e).2=true→(k.mat (v.ex p) (envB p e)).1=envB p (k.mtV v e).1)
 | .mk con n ks,v,e=>by
   obtain ⟨X,hX⟩:∃ X,X=(Pa.mk con n ks).mtV v e:=⟨_,rfl⟩
   obtain ⟨Y,hY⟩:∃ Y,Y=(Pa.mk con n ks).mat (v.ex p) (envB p e):=⟨_,rfl⟩
   rw [← hX,← hY];rw [Pa.mtV_eq] at hX;rw [Pa.mat_eq] at hY;cases con with
   | true =>
     rw [if_pos (show (Pa.mk true n ks).con=true from rfl)] at hX hY;cases v with
     | built m us =>
       have hl:(ZL p us).length=us.length:=Xu p us;by_cases h:m=n∧us.length=ks.length
       ·rw [show X=Wd ks us e from hX.trans (if_pos h),show Y=Wf ks (ZL p us) (envB p e) from hY.trans (if_pos ⟨rfl,h.1,hl.trans h.2⟩)];exact Ze9 p ks us e h.2
       ·rw [show X=(e,false) from hX.trans (if_neg h),show Y=(envB p e,false) from hY.trans (if_neg (fun h'=>h ⟨h'.2.1,hl.symm.trans h'.2.2⟩))];exact ⟨rfl,fun h=>by cases h⟩
     | clo x b ns vs =>
       rw [show X=(e,false) from hX,show Y=(envB p e,false) from hY.trans (if_neg (fun h=>by obtain ⟨m,us,h⟩:=ex_op h.1; cases h))];exact ⟨rfl,fun h=>by cases h⟩
     | part j us =>
       rw [show X=(e,false) from hX,show Y=(envB p e,false) from hY.trans (if_neg (fun h=>by obtain ⟨m,us,h⟩:=ex_op h.1; cases h))];exact ⟨rfl,fun h=>by cases h⟩
   | false =>
     rw [if_neg (show ¬ (Pa.mk false n ks).con=true from fun h=>by cases h)] at hX hY;rw [show X=((n::e.1,v::e.2),true) from hX,show Y=(envB p e++[(n,v.ex p)],true) from hY];refine ⟨rfl,fun _=>?_⟩;show _=bdL (n::e.1) (ZL p (v::e.2));rw [ZL,Zl0]
theorem Ze9 (p:Pr):∀ (ks:List Pa) (us:List Val) (e:Env),us.length=ks.length→(Wf ks (ZL p us) (envB p e)).2=(Wd ks us e).2∧((Wd ks us e).2=true→(Wf ks (ZL p us) (envB p e)).1=envB p (Wd ks us e).1)
 | [],us,e,hl=>by
   obtain rfl:us=[]:=ZqD hl;exact ⟨rfl,fun _=>rfl⟩
 | k::ks,[],e,hl=>by simp at hl
 | k::ks,u::us,e,hl=>by
   obtain ⟨h1,h2⟩:=Pa.mat_mtV p k u e;rw [ZL,Wf,Wd,h1];by_cases h:(k.mtV u e).2=true
   ·rw [if_pos h,if_pos h,h2 h];exact Ze9 p ks us (k.mtV u e).1 (by simpa using hl)
   ·rw [if_neg h,if_neg h];exact ⟨rfl,fun h=>by cases h⟩
end
mutual
def Ex.wtM:Ex→Int
 | .mk op _ ks=>if op=5 then 1 else 1+WE ks
def WE:List Ex→Int
 | []=>0
 | k::ks=>k.wtM+WE ks
end
theorem Ex.wtM_eq (e:Ex):e.wtM=if e.op=5 then 1 else 1+WE e.kids:=by cases e; rw [Ex.wtM]; rfl
mutual
theorem Val.wt_ex (p:Pr):∀ v:Val,(v.ex p).wtM=v.nd
 | .built n ks=>by rw [Val.ex,Ex.wtM_eq,Val.nd]; show (if (3:Int)=5 then _ else 1+WE (ZL p ks))=_; rw [if_neg (by decide),Zec p ks]
 | .clo x b ns vs=>by rw [Val.ex,Ex.wtM_eq,Val.nd]; exact if_pos rfl
 | .part j us=>by
   have h2:(Ex.mk 2 (ZeK p j) []).wtM=1:=by rw [Ex.wtM_eq]; rfl
   cases us with
   | nil=>rw [Val.ex,if_pos (show ([]:List Val).length=0 from rfl),h2,Val.nd]
   | cons a l =>
     rw [Val.ex,if_neg (by simp),Ex.wtM_eq,Val.nd];show (if (4:Int)=5 then _ else 1+WE (.mk 2 (ZeK p j) []::ZL p (a::l)))=_;rw [if_neg (by decide),WE,h2,Zec p (a::l),Wc];omega
theorem Zec (p:Pr):∀ l:List Val,WE (ZL p l)=Wc l
 | []=>rfl
 | v::l=>by rw [ZL,WE,Wc,Val.wt_ex p v,Zec p l]
end
theorem put_nil:∀ e:Ex,e.putM true []=e:=by
 intro e;refine Ex.ind (p:=fun e=>e.putM true []=e) (fun e ih=>?_) e;rw [Ex.putM_eq];split
 ·rfl
 ·have hn:(if e.op=1 then lastB [] e.name else none)=none:=by split<;>rfl
  rw [hn];have hl:(if e.op=5 then ([]:List Bd).filter (fun b=>!decide (b.1=e.name)) else [])=[]:=by split<;>rfl
  dsimp only;rw [hl]
  have:e.kids.map (·.putM true [])=e.kids:=by
   conv=>rhs; rw [← List.map_id e.kids]
   exact List.map_congr_left fun k hk=>ih k hk
  rw [this];cases e; rfl
theorem Zfa (l:List Bd) (x s:ByteArray) (y:Ex):lastB (l++[(x,y)]) s=if x=s then some y else lastB l s:=by
 unfold lastB;rw [List.reverse_append,List.reverse_singleton,List.singleton_append,List.find?_cons];by_cases h:x=s
 ·rw [if_pos h,show decide ((x,y).1=s)=true by simp [h]]; rfl
 ·rw [if_neg h,show decide ((x,y).1=s)=false by simp [h]]
theorem out_out (x z:ByteArray) (l:List Bd):outB z (outB x l)=outB x (outB z l):=by
 unfold outB;rw [List.filter_filter,List.filter_filter]
 congr 1; funext b; rw [Bool.and_comm]
theorem out_self (x:ByteArray) (l:List Bd):outB x (outB x l)=outB x l:=by
 unfold outB;rw [List.filter_filter]
 congr 1; funext b; rw [Zqo]
theorem put_put {p:Pr} {x:ByteArray} {y:Ex}:∀ (e:Ex) (b:List ByteArray) (l:List Bd),e.sdF p b=0→(e.putM true (outB x l)).putM true [(x,y)]=e.putM true (l++[(x,y)]):=by
 intro e;refine Ex.ind (p:=fun e=>∀ (b:List ByteArray) (l:List Bd),e.sdF p b=0→(e.putM true (outB x l)).putM true [(x,y)]=e.putM true (l++[(x,y)])) (fun e ih b l h=>?_) e;have h9:¬ e.op=9:=by rcases ZbO h with h | h | h | h | h<;>omega
 have h9':¬ (true=true∧e.op=9):=fun h=>h9 h.2
 have hkd:=(ZaI.1 h).2;rw [Ex.putM_eq true e (outB x l),Ex.putM_eq true e (l++[(x,y)]),if_neg h9',if_neg h9'];by_cases h1:e.op=1
 ·rw [if_pos h1,if_pos h1,ZjK,Zfa]
  have hk0:e.kids=[]:=by
   have hf:=(ZeE.1 (ZaI.1 h).1).1;unfold formB at hf;rw [if_pos (.inl h1)] at hf;simp at hf;exact hf.1
  by_cases hx:e.name=x
  ·rw [if_pos hx,if_pos hx.symm];dsimp only;rw [if_pos rfl,Ex.putM_eq,if_neg (fun h=>h9 h.2)]
   have:(if (Ex.mk e.op e.name (e.kids.map (·.putM true (if e.op=5 then (outB x l).filter (fun b=>!decide (b.1=e.name)) else outB x l)))).op=1 then lastB [(x,y)] e.name else none)=some y:=by
    refine (if_pos h1).trans ?_
    have:=Zfa [] x e.name y
    rw [if_pos hx.symm] at this;exact this
   change (match (if e.op=1 then lastB [(x,y)] e.name else none) with | some x=>_ | none=>_)=_
   rw [show (if e.op=1 then lastB [(x,y)] e.name else none)=some y from this];rfl
  ·rw [if_neg hx,if_neg (fun h:x=e.name=>hx h.symm)];cases hl:lastB l e.name with
   | some z =>
     dsimp only;rw [if_pos rfl,Ex.putM_eq];exact if_pos ⟨rfl,rfl⟩
   | none =>
     dsimp only;rw [hk0,Ex.putM_eq,if_neg (fun h=>h9 h.2)]
     have h3:(if e.op=1 then lastB [(x,y)] e.name else none)=none:=by
      rw [if_pos h1]
      have:=Zfa [] x e.name y
      rw [if_neg (fun h=>hx h.symm)] at this;exact this
     change (match (if e.op=1 then lastB [(x,y)] e.name else none) with | some x=>_ | none=>_)=_
     rw [h3];rfl
 ·rw [if_neg h1,if_neg h1];dsimp only;rw [Ex.putM_eq,if_neg (fun h=>h9 h.2)]
  change (match (if e.op=1 then lastB [(x,y)] e.name else none) with | some x=>_ | none=>_)=_
  rw [if_neg h1];dsimp only;show Ex.mk e.op e.name ((e.kids.map _).map _)=_;rw [List.map_map]
  congr 1
  refine List.map_congr_left fun k hk=>?_
  show (k.putM true _).putM true (if e.op=5 then outB e.name [(x,y)] else [(x,y)])=k.putM true (if e.op=5 then outB e.name (l++[(x,y)]) else l++[(x,y)]);by_cases h5:e.op=5
  ·rw [if_pos h5,if_pos h5,if_pos h5];have hka:outB e.name (l++[(x,y)])=outB e.name l++outB e.name [(x,y)]:=by unfold outB; rw [List.filter_append]
   rw [hka];by_cases hx:e.name=x
   ·have h0:outB e.name [(x,y)]=[]:=by unfold outB; simp [hx]
    rw [h0,put_nil,ZqJ,hx];exact congrArg (k.putM true) (out_self x l)
   ·have h0:outB e.name [(x,y)]=[(x,y)]:=by unfold outB; simp [Ne.symm hx]
    rw [h0,show List.filter (fun b=>!decide (b.1=e.name)) (outB x l)=outB x (outB e.name l) from out_out x e.name l]
    have:=hkd k hk
    exact ih k hk _ _ this
  ·rw [if_neg h5,if_neg h5,if_neg h5];exact ih k hk _ l (hkd k hk)
theorem wd_put:∀ (e:Ex) (l:List Bd),e.wd→(∀ b∈l,b.2.wd)→(e.putM true l).wd:=by
 intro e;refine Ex.ind (p:=fun e=>∀ (l:List Bd),e.wd→(∀ b∈l,b.2.wd)→(e.putM true l).wd) (fun e ih l he hl=>?_) e;obtain ⟨h1,h2⟩:=Ex.wd_iff.1 he;rw [Ex.putM_eq];split
 ·exact he
 ·split
  ·rename_i x hx;rw [if_pos rfl];refine Ex.wd_iff.2 ⟨by simp [Ex.kids],fun k hk=>?_⟩;rcases List.mem_singleton.1 hk with rfl
   split at hx
   ·obtain ⟨b,hb,_,rfl⟩:=ZjE hx;exact hl b hb
   ·cases hx
  ·refine Ex.wd_iff.2 ⟨by simpa [Ex.kids] using h1,fun k hk=>?_⟩;obtain ⟨k',hk',rfl⟩:=List.mem_map.1 hk;refine ih k' hk' _ (h2 k' hk') fun b hb=>?_
   split at hb
   ·exact hl b (List.mem_filter.1 hb).1
   ·exact hl b hb
mutual
theorem Val.ex_wd {p:Pr} (hp:PgR p):∀ v:Val,v.ok p→(v.ex p).wd
 | .built n ks,h=>by
   rw [Val.ex];exact Ex.wd_iff.2 ⟨by show (ZL p ks).length≤_; rw [Xu]; have:=h.1; omega,Zck hp ks h.2⟩
 | .clo x b ns vs,h=>by
   rw [Val.ex];refine Ex.wd_iff.2 ⟨by simp [Ex.kids],fun k hk=>?_⟩;rcases List.mem_singleton.1 hk with rfl
   obtain ⟨⟨_,_,hb,_⟩,hv⟩:=h;refine wd_put _ _ (Ex.wd_of (by omega)) fun b hb=>?_
   have hb:=(List.mem_filter.1 hb).1;unfold bdL at hb
   have:=(List.of_mem_zip (List.mem_reverse.1 hb)).2
   exact Zck hp vs hv _ this
 | .part j us,h=>by
   rw [Val.ex];split
   ·exact Ex.wd_iff.2 ⟨by simp [Ex.kids],fun k hk=>by cases hk⟩
   ·rename_i h0;obtain ⟨⟨hj,_,har⟩,_⟩:=id h
    change (us.length:Int)<arAt p j at har
    have hA:arAt p j=p.funs[j].arity:=by unfold arAt; rw [ZqC hj]
    have h10:=hp.ar _ (ZpW hj);refine Ex.wd_iff.2 ⟨?_,fun k hk=>?_⟩
    ·show (Ex.mk 2 (ZeK p j) []::ZL p us).length≤_;rw [Zqb,Xu]; omega
    ·rcases List.mem_cons.1 hk with rfl | hk
     ·exact Ex.wd_iff.2 ⟨by simp [Ex.kids],fun k hk=>by cases hk⟩
     ·exact Zck hp us h.2 _ hk
theorem Zck {p:Pr} (hp:PgR p):∀ l:List Val,YP p l→∀ k∈ZL p l,k.wd
 | [],_,k,hk=>by cases hk
 | v::l,h,k,hk=>by
   rw [ZL] at hk;rcases List.mem_cons.1 hk with rfl | hk
   ·exact Val.ex_wd hp v h.1
   ·exact Zck hp l h.2 k hk
end
end Go.PV.YtglpmlbbaedbiaaGreat
end
section
open Go.PV.AH renaming set_none→ZpO,set_same→ZpP,set_ne→ZpV
open Go.PV.GhL renaming cons→ZpZ
open Go.PV.GhV renaming refl→Zp8,forget→Zqq
open Go.PV.Hold renaming mk→ZpM
open Go.PV.PureF renaming forget→Zp4,use→ZpQ
open Go.PV.SubH renaming refl→ZpN,of_set→ZpS,new→ZpR
open List renaming getElem_mem→ZpW,drop→ZpL,take_of_length_le→Zqr,drop_zero→ZqL
open Nat renaming reduceEqDiff→ZpI,reduceLT→ZpJ,lt_succ_self→ZqK,reduceAdd→ZpT,reduceLeDiff→Zp1
open Option renaming bind_some→Zqg,map_some→Zp6
set_option maxRecDepth 20000
set_option maxHeartbeats 4000000
namespace Go.PV.YtglpmlbbaedbiaaGreat
open Go Go.Proofs
theorem ZgO {l:List Ex} {i:Nat} (h:i<l.length):WE (l.take (i+1))=WE (l.take i)+l[i].wtM:=by
 have hsn:∀ (l:List Ex) (v:Ex),WE (l++[v])=WE l+v.wtM:=fun l v=>by
  induction l with
  | nil=>simp [WE]
  | cons x l ih=>rw [List.cons_append,WE,ih,WE]; omega
 rw [XB h,hsn]
theorem ZmF:∀ (n:Nat) (e:Ex),e.sz<n→e.wd→PureF Tryz.prog 130 [exV e] (iV (IntKind.i64.wrap e.wtM)):=by
 intro n
 induction n with
 | zero=>intro e h; omega
 | succ n ih =>
   intro e hn hw;obtain ⟨hN,hk⟩:=Ex.wd_iff.1 hw;have hz:=e.sz_eq;have ih':∀ i (h:i<e.kids.length),PureF Tryz.prog 130 [exV e.kids[i]] (iV (IntKind.i64.wrap e.kids[i].wtM)):=fun i h=>ih _ (by have:=Ya (ZpW h); omega) (hk _ (ZpW h))
   clear ih hz hn hw hk;refine Zp4 fun H0=>?_
   refine ZE fd130 (by simp) ?_;delta c130 Zj Zf Zd Zb Zm Zr;rw [e.wtM_eq];by_cases h5:e.op=5
   ·rw [if_pos h5];clear ih'
    (repeat' (first | (simp only [↓Zz,ZA,ptrV,ZpI,ZpJ,ZD,ZpL,undef,ZO,ZQ, *]) | (refine ZG ?_) | (refine ZB fun zr zh=>?_; have zg:=zh; (try simp only [ZpO] at zg)) | (exact ZpN _) | (refine ZpS ?_ ?_) | (with_reducible refine And.intro ?_ ?_)))
    all_goals first
     | rfl
     | exact ZpR (by assumption)
   ·rw [if_neg h5];have h5':=ZpM h5
    (repeat' (first | (simp only [↓Zz,ZA,ptrV,ZpI,ZpJ,ZD,ZpL,undef,ZO,ZQ, *]) | (refine ZB fun zr zh=>?_; have zg:=zh; (try simp only [ZpO] at zg))))
    have q1:(H0.set zr (.cells 28 [iV e.op,sV e.name,encS exE e.kids] 0)) zr=some (.cells 28 [iV e.op,sV e.name,encS exE e.kids] 0):=ZpP _ _ _;have s1:SubH H0 (H0.set zr (.cells 28 [iV e.op,sV e.name,encS exE e.kids] 0)):=ZpR zh;generalize H0.set zr (.cells 28 [iV e.op,sV e.name,encS exE e.kids] 0)=B at *
    refine ZP (fun _ _ _ h=>h) (fun A H=>H=B∧A.d=[]∧A.t 1=ptrV zr 0∧∃ i:Nat,i≤e.kids.length∧A.t 4=iV i∧A.t 3=iV (IntKind.i64.wrap (1+WE (e.kids.take i))))
     (fun A _=>match A.t 4 with | .lit (.int _ i)=>((e.kids.length:Int)-i).toNat | _=>0) ?_ ?_
    ·exact ⟨rfl,rfl,(by simp only [ZC,ZpI,if_true,if_false, *]<;>rfl),0,by omega,(by simp only [ZC,ZpI,if_true,if_false, *]<;>rfl),by simp only [ZC,ZpI,if_true,if_false]; rfl⟩
    ·rintro ⟨t,d⟩ H ⟨rfl,rfl,h1,i,hi,h4,h3⟩;dsimp only at h1 h4 h3;delta b130_1 Za Zd Zb Ze Zn Zr Zk Zo Zc Zm;by_cases hlt:i<e.kids.length
     ·have hil:(i:Int)<(e.kids.length:Int):=by omega
      have hdi:=XI hlt;have hc:=ih' i hlt;have hw:IntKind.i64.wrap (IntKind.i64.wrap (1+WE (e.kids.take i))+IntKind.i64.wrap e.kids[i].wtM)=IntKind.i64.wrap (1+WE (e.kids.take (i+1))):=by rw [Zir,ZgO hlt]; congr 1; omega
      clear ih'
      (repeat' (first | (simp only [↓Zz,ZA,ptrV,intV,ZpI,ZpJ,reduceCtorEq,ZpL,ZR,Ye,Yd,ZU,en_130, *]) | (refine ZpQ (hc) ?_) | (with_reducible refine And.intro ?_ ?_)))
      all_goals rw [ZK (n:=(i:Int)+1) (by omega) (by omega)]
      ·exact ⟨i+1,by omega,rfl,rfl⟩
      ·omega
     ·have hil:¬ (i:Int)<(e.kids.length:Int):=by omega
      rw [Zqr (by omega)] at h3
      (repeat' (first | (simp only [↓Zz,ZA,ptrV,intV,ZpI,ZpJ,reduceCtorEq,ZpL,ZR,Ye,ZU, *])))
      delta c130_1 Za Zc
      (repeat' (first | (simp only [↓Zz,ZA,ZpI,ZpJ, *]) | (refine ZG ?_) | (refine ZV rfl (fun _ _ _ h=>h) ?_)))
      all_goals first
       | rfl
       | exact s1
abbrev stE (p:Pr) (c fu d k:Int):List VV:=[cosV p.cons,fusV p.funs,iV c,iV fu,iV d,iV k]
abbrev stV (p:Pr) (c fu d k:Int):VV:=.agg (stE p c fu d k)
theorem sf_ret {p:Pr} {c fu d k:Int} {H:AH} {K:VE→AH→Prop} {t:Nat→VV} {r sp:Nat} {e':TypeId} (h4:t 4=ptrV r 0) (k4:H r=some (.cells e' (stE p c fu d k) sp)) (hK:K (.ret (stV p c fu d k)) H):YI Tryz.prog [.cell 4 106] K .ret ⟨t,[]⟩ H :=
 Yo rfl (by simp only [resV,YY,YX,Yq,h4,k4,ptrV,ZqL,Jb,Zqg,Zp6,tupV]) hK
def cnR (p:Pr) (fu c d:Int) (R:Except Int Int) (x:VV):Prop:=(∃ c1,R=.ok c1∧x=stV p c1 fu d 0)∨(∃ k c1,¬ k=0∧R=.error k∧x=stV p c1 fu d k)
theorem Zk3 {p:Pr} {c1 fu c d k:Int} {R:Except Int Int} {H0 H:AH} {t:Nat→VV} {r sp:Nat} {e':TypeId} (h4:t 4=ptrV r 0) (k4:H r=some (.cells e' (stE p c1 fu d k) sp)) (hs:SubH H0 H) (hR:cnR p fu c d R (stV p c1 fu d k)):YI Tryz.prog [.cell 4 106] (fun e H''=>∃ H',SubH H' H''∧H'=H0∧∃ x,e=.ret x∧cnR p fu c d R x) .ret ⟨t,[]⟩ H :=
 sf_ret h4 k4 ⟨H0,hs,rfl,_,rfl,hR⟩
theorem ZgP {p:Pr} (hp:PgR p) {us:List Val} {ex:Bool} {m:Nat} {fu c d:Int} (hm:m=us.length) (hl:us.length≤1099511627776) (hu:YP p us) (hc:0≤c∧c≤1099511627776) (H:AH):ZT Tryz.prog 93 [stV p c fu d 0,.slice ex m (encC exE (ZL p us))] H (fun e H'=>H'=H∧∃ x,e=.ret x∧cnR p fu c d (cntV fu c d us) x):=by
 subst hm;refine WD ?_;refine ZE fd93 (by simp) ?_;delta c93 Zj Zi Zf;have hw:IntKind.i64.wrap (c+1)=c+1:=ZK (by omega) (by omega);have hel:(ZL p us).length=us.length:=Xu p us;have hnd:WE (ZL p us)=Wc us:=Zec p us;have hwt:∀ i (h:i<(ZL p us).length),PureF Tryz.prog 130 [exV (ZL p us)[i]] (iV (IntKind.i64.wrap (ZL p us)[i].wtM)):=fun i h=>ZmF _ _ (ZqK _) (Zck hp us hu _ (ZpW h))
 unfold cntV;rw [← hnd];rw [← hel] at hl ⊢;clear hnd hel hu;generalize ZL p us=es at *
 (repeat' (first | (simp only [↓Zz,ZA,ptrV,ZpJ,ZD,undef,Xl, *]) | (refine ZB fun zr zh=>?_; have zg:=zh; (try simp only [ZpO] at zg))))
 rename_i r2 n2 n2';have f2:H r2=none:=by simpa using n2'
 have f4:H zr=none:=by simp only [zg]
 have d24:¬ r2=zr∧¬ zr=r2:=by simp only [zg]; simp
 have k2:((H.set r2 (.cells 106 (stE p c fu d 0) 0)).set zr (.cells 106 [.lit (.slice none 0 0),.lit (.slice none 0 0),iV 0,iV 0,iV 0,iV 0] 0)) r2=some (.cells 106 [cosV p.cons,fusV p.funs,iV c,iV fu,iV d,iV 0] 0):=by rw [ZpV _ _ d24.1,ZpP]
 have k4:((H.set r2 (.cells 106 (stE p c fu d 0) 0)).set zr (.cells 106 [.lit (.slice none 0 0),.lit (.slice none 0 0),iV 0,iV 0,iV 0,iV 0] 0)) zr=some (.cells 106 [.lit (.slice none 0 0),.lit (.slice none 0 0),iV 0,iV 0,iV 0,iV 0] 0):=ZpP _ _ _;have hs:SubH H ((H.set r2 (.cells 106 (stE p c fu d 0) 0)).set zr (.cells 106 [.lit (.slice none 0 0),.lit (.slice none 0 0),iV 0,iV 0,iV 0,iV 0] 0)):=(ZpR n2).of_set f4;clear n2 n2' zh zg;generalize (H.set r2 (.cells 106 (stE p c fu d 0) 0)).set zr (.cells 106 [.lit (.slice none 0 0),.lit (.slice none 0 0),iV 0,iV 0,iV 0,iV 0] 0)=B at *
 generalize zr=r4 at *
 refine ZP (fun _ _ _ h=>h) (fun A H'=>H'=B∧A.d=[]∧A.t 1=.slice ex es.length (encC exE es)∧A.t 2=ptrV r2 0∧A.t 4=ptrV r4 0∧∃ i:Nat,i≤es.length∧A.t 6=iV i∧A.t 5=iV (IntKind.i64.wrap (WE (es.take i))))
  (fun A _=>match A.t 6 with | .lit (.int _ i)=>((es.length:Int)-i).toNat | _=>0) ?_ ?_
 ·exact ⟨rfl,rfl,(by simp only [ZC,ZpI,if_false, *]<;>rfl),(by simp only [ZC,ZpI,if_true,if_false, *]<;>rfl),(by simp only [ZC,ZpI,if_true,if_false, *]<;>rfl),0,by omega,(by simp only [ZC,ZpI,if_true,if_false, *]<;>rfl),by simp only [ZC,ZpI,if_true,if_false]; rfl⟩
 ·rintro ⟨t,d'⟩ H' ⟨rfl,rfl,h1,h2,h4,i,hi,h6,h5⟩;dsimp only at h1 h2 h4 h6 h5;delta b93_1 Za Ze Zn Zr Zk Zb Zo Zc Zm;by_cases hlt:i<es.length
  ·have hil:(i:Int)<(es.length:Int):=by omega
   have hdi:=XI hlt;have hcw:=hwt i hlt;have hw1:IntKind.i64.wrap (IntKind.i64.wrap (WE (es.take i))+IntKind.i64.wrap es[i].wtM)=IntKind.i64.wrap (WE (es.take (i+1))):=by rw [Zir,ZgO hlt]
   clear hwt
   (repeat' (first | (simp only [↓Zz,ZA,ptrV,intV,ZpI,ZpJ,reduceCtorEq,Yd,ZU,en_130, *]) | (refine ZpQ (hcw) ?_) | (with_reducible refine And.intro ?_ ?_)))
   all_goals rw [ZK (n:=(i:Int)+1) (by omega) (by omega)]
   ·exact ⟨i+1,by omega,rfl,rfl⟩
   ·omega
  ·have hil:¬ (i:Int)<(es.length:Int):=by omega
   rw [Zqr (by omega)] at h5;clear hwt;generalize IntKind.i64.wrap (WE es)=n at *
   (repeat' (first | (simp only [↓Zz,ZA,ptrV,intV,ZpI,ZpJ,reduceCtorEq,ZU, *])))
   refine ZV rfl (fun _ _ _ h=>h) ?_;delta c93_1 Zd Zb Zm Zc Zr Zg Za Zn;by_cases hn:5000<n
   ·rw [if_pos hn]
    (repeat' (first | (simp only [↓Zz,ZA,ptrV,ZpI,ZpJ,ZpT,setAt,ZpL,Yj,YO,Yq,Yn,JW, *])))
    exact Zk3 (r:=r4) (by simp only [ZC,ZpI,if_false, *]<;>rfl) (ZpP _ _ _) (by repeat (first | exact ZpN _ | assumption | refine ZpS ?_ (by assumption))) (.inr ⟨7,c,by decide,rfl,rfl⟩)
   ·rw [if_neg hn];by_cases he:c=fu
    ·rw [if_pos he]
     (repeat' (first | (simp only [↓Zz,ZA,ptrV,ZpI,ZpJ,ZpT,setAt,ZpL,Yj,ZdR,Zgt,YO,Yq,ZQ,Yn,JW, *])))
     exact Zk3 (r:=r4) (by simp only [ZC,ZpI,if_false, *]<;>rfl) (ZpP _ _ _) (by repeat (first | exact ZpN _ | assumption | refine ZpS ?_ (by assumption))) (.inr ⟨8,_,by decide,rfl,rfl⟩)
    ·rw [if_neg he];by_cases hd:2000≤d
     ·rw [if_pos hd]
      (repeat' (first | (simp only [↓Zz,ZA,ptrV,ZpI,ZpJ,ZpT,Zp1,setAt,ZpL,Yj,ZdR,Zgt,Zce,YO,Yq,ZQ,Yn,JW,Zbw, *])))
      exact Zk3 (r:=r4) (by simp only [ZC,ZpI,if_false, *]<;>rfl) (ZpP _ _ _) (by repeat (first | exact ZpN _ | assumption | refine ZpS ?_ (by assumption))) (.inr ⟨6,c+1,by decide,rfl,rfl⟩)
     ·rw [if_neg hd]
      (repeat' (first | (simp only [↓Zz,ZA,ptrV,ZpI,ZpJ,ZpT,Zp1,setAt,ZpL,Yj,ZdR,Zgt,Zce,YO,Yq,ZQ,Yn,Zbw, *])))
      exact Zk3 (r:=r4) (by simp only [ZC,ZpI,if_false, *]<;>rfl) (ZpP _ _ _) (by repeat (first | exact ZpN _ | assumption | refine ZpS ?_ (by assumption))) (.inl ⟨c+1,rfl,rfl⟩)
theorem ZfL {i j:Nat} {p:Pr} {c fu d k:Int} {x y z:VV} {H:AH} {K:VE→AH→Prop} {t:Nat→VV} {ri rj si sj:Nat} {e1 e2:TypeId} (hi:t i=ptrV ri 0) (hj:t j=ptrV rj 0) (ki:H ri=some (.cells e1 (stE p c fu d k) si)) (kj:H rj=some (.cells e2 [x,y,z] sj)) (hK:K (.ret (.tuple [stV p c fu d k,.agg [x,y,z]])) H):YI Tryz.prog [.cell i 106,.cell j 28] K .ret ⟨t,[]⟩ H :=
 Yo rfl (by simp only [resV,YY,YX,Yq,Yd,hi,hj,ki,kj,ptrV,ZqL,Jb,XT,Zqg,Zp6,tupV]) hK
theorem ZhW {p:Pr} {fu c d k:Int} (H:AH):ZT Tryz.prog 95 [stV p c fu d 0,iV k] H (fun e H'=>H'=H∧e=.ret (.tuple [stV p c fu d k,exV zEx])):=by
 refine JH ?_;refine ZE fd95 (by simp) ?_;delta c95 Zj Zi Zd Zb Zm Zr Za Zg Zq
 (repeat' (first | (simp only [↓Zz,ZA,ptrV,ZpI,ZpJ,ZpT,ZD,ZM,fillV,setAt,ZpL,undef,ZM,Yj,YO,Yq,JW,Yn,YE,Zcr,Xl,Yc, *]) | (refine ZB fun zr zh=>?_; have zg:=zh; (try simp only [ZpO] at zg))))
 rename_i r2 h2 g2 r4 h4 g4;have f2:H r2=none:=by simpa using g2
 have f4:H r4=none:=g4.2;have f5:H zr=none:=by simp only [zg]
 have d45:¬ r4=zr∧¬ zr=r4:=by simp only [zg]; simp
 refine ZfL (ri:=r4) (rj:=zr) (by simp only [ZC,ZpI,if_true,if_false, *]<;>rfl) (by simp only [ZC,ZpI,if_true,if_false, *]<;>rfl) (by rw [ZpV _ _ d45.1,ZpP]) (ZpP _ _ _) ?_;exact ⟨_,H,GhV.tuple (ZpZ (Zp8 _ _) (ZpZ (GhV.agg (ZpZ (Zp8 _ _) (ZpZ (Zp8 _ _) (ZpZ ((GhV.nil _).trans (Zqq (by repeat (first | exact ZpN _ | assumption | refine ZpS ?_ (by assumption))) _)) (GhL.nil _))))) (GhL.nil _))),rfl,rfl⟩
end Go.PV.YtglpmlbbaedbiaaGreat
end
section
open Go.PV.AH renaming set_none→ZpO,set_same→ZpP
open Go.PV.GhL renaming cons→ZpZ
open Go.PV.GhV renaming forget→Zqq,refl→Zp8
open Go.PV.Hold renaming mk→ZpM
open Go.PV.PureF renaming use→ZpQ
open Go.PV.SubH renaming new→ZpR,refl→ZpN
open Int renaming reduceNeg→ZqG
open List renaming drop_eq_getElem_cons→Zql,drop→ZpL,drop_eq_nil_of_le→Zp9
open Nat renaming lt_succ_self→ZqK,reduceLT→ZpJ,reduceEqDiff→ZpI,reduceAdd→ZpT,reduceMul→Zqu,reduceLeDiff→Zp1
open Option renaming bind_some→Zqg,map_some→Zp6
set_option maxRecDepth 20000
set_option maxHeartbeats 4000000
namespace Go.PV.YtglpmlbbaedbiaaGreat
open Go Go.Proofs
def JC (vs:List Ex):List Cl→Nat→Int × List Bd
 | [],_=>(-1,[])
 | c::l,i=>if (Wf c.pats vs []).2=true then ((i:Int),(Wf c.pats vs []).1) else JC vs l (i+1)
theorem Zi2 {vs:List Ex} {l:List Cl} {i k:Nat} (h:i<l.length):JC vs (l.drop i) k=if (Wf l[i].pats vs []).2=true then ((k:Int),(Wf l[i].pats vs []).1) else JC vs (l.drop (i+1)) (k+1):=by rw [Zql h,JC]
abbrev clrV (r:Int × List Bd):VV:=.tuple [iV r.1,bdsV r.2]
theorem Zlj (f:Fu) (vs:List Ex) (hclN:f.cls.length≤1099511627776) (hv:vs.length≤1099511627776) (hb:∀ i (h:i<f.cls.length),pasSz f.cls[i].pats≤1099511627776∧f.cls[i].pats.length=vs.length) :
 PureF Tryz.prog 94 [fuV f,exsV vs] (clrV (JC vs f.cls 0)):=by
 have hpp:∀ i (h:i<f.cls.length) k (h':k<f.cls[i].pats.length) (h'':k<vs.length) (l:List Bd),l.length+f.cls[i].pats[k].sz≤1099511627776→PureF Tryz.prog 131 [paV f.cls[i].pats[k],exV vs[k],bdsV l] (prtV (f.cls[i].pats[k].mat vs[k] l)):=fun i h k h' h'' l hl =>
  Zkb _ _ _ l (ZqK _) hl
 refine JN.pure fun H0=>?_
 refine ZE fd94 (by simp) ?_;delta c94 Zj Zf Zq;obtain ⟨R,hR⟩:∃ R,R=JC vs f.cls 0:=⟨_,rfl⟩
 rw [← hR];replace hR:=ZpM hR
 (repeat' (first | (simp only [↓Zz,ZA,ptrV,ZpJ,ZD,undef, *]) | (refine ZB fun zr zh=>?_; have zg:=zh; (try simp only [ZpO] at zg))))
 refine ZP (fun _ _ _ h=>h) (fun A H'=>H'=H0.set zr (.cells 67 (fuE f) 0)∧A.d=[]∧A.t 1=exsV vs∧A.t 2=ptrV zr 0∧∃ i:Nat,i≤f.cls.length∧A.t 6=iV i∧R=JC vs (f.cls.drop i) i)
  (fun A _=>match A.t 6 with | .lit (.int _ i)=>((f.cls.length:Int)-i).toNat | _=>0) ?_ ?_
 ·exact ⟨rfl,rfl,(by simp only [ZC,ZpI,if_false, *]<;>rfl),(by simp only [ZC,ZpI,if_true,if_false, *]<;>rfl),0,by omega,(by simp only [ZC,ZpI,if_true,if_false, *]<;>rfl),hR.out⟩
 ·clear hR;rintro ⟨t,d⟩ H ⟨hHe,rfl,h1,h2,i,hi,h6,hR⟩;dsimp only at h1 h2 h6;have k2:H zr=some (.cells 67 (fuE f) 0):=by rw [hHe]; exact ZpP _ _ _
  have hs0:SubH H0 H:=by rw [hHe]; exact ZpR zh
  rw [← hHe];clear hHe zg zh;delta b94_2 Za Zd Zb Ze Zn Zr Zq Zc Zf;by_cases hlt:i<f.cls.length
  ·have hil:(i:Int)<(f.cls.length:Int):=by omega
   obtain ⟨hpz1,hpz2⟩:=hb i hlt;have hpp':=hpp i hlt;rw [Zi2 hlt] at hR;clear hb hpp;obtain ⟨X,hX⟩:∃ X,X=Wf f.cls[i].pats vs []:=⟨_,rfl⟩
   rw [← hX] at hR;replace hR:=ZpM hR;have hcd:=Zc4 hlt;replace hpz2:=ZpM hpz2
   (repeat' (first | (simp only [↓Zz,ZA,ptrV,intV,ZpI,ZpJ,ZpT,Zqu,Zp1,reduceCtorEq,fillV,ZpL,ZH,ZH,Jf,Zbj,ZaC,JL,Zaf, *])))
   refine WN (H':=H) (Ghost.slot (i:=7) (x':=bdsV []) (by simp only [ZC,ZpI,if_true,if_false]; exact GhV.imm H)) ?_
   refine ZP (fun _ _ _ h=>h) (fun A H'=>H'=H∧A.d=[]∧A.t 1=exsV vs∧A.t 2=ptrV zr 0∧A.t 6=iV i∧∃ (k:Nat) (m:List Bd) (b:Bool),k≤f.cls[i].pats.length∧A.t 9=iV k∧A.t 7=bdsV m∧A.t 8=bV b∧(b=true→m.length+pasSz (f.cls[i].pats.drop k)≤1099511627776∧X=Wf (f.cls[i].pats.drop k) (vs.drop k) m)∧(b=false→X.2=false))
    (fun A _=>match A.t 9 with | .lit (.int _ k)=>((f.cls[i].pats.length:Int)-k).toNat | _=>0) ?_ ?_
   ·exact ⟨rfl,rfl,(by simp only [ZC,ZpI,if_false, *]<;>rfl),(by simp only [ZC,ZpI,if_false, *]<;>rfl),(by simp only [ZC,ZpI,if_false, *]<;>rfl),0,[],true,by omega,(by simp only [ZC,ZpI,if_true,if_false, *]<;>rfl),by simp only [ZC,ZpI,if_true,if_false],(by simp only [ZC,ZpI,if_true,if_false, *]<;>rfl),fun _=>⟨by simpa using hpz1,hX⟩,fun h=>by cases h⟩
   ·clear h1 h2 h6 hX;rintro ⟨t,d⟩ H' ⟨rfl,rfl,h1,h2,h6,k,m,b,hk,h9,h7,h8,ht,hf⟩;dsimp only at h1 h2 h6 h9 h7 h8;have hpl:f.cls[i].pats.length=vs.length:=hpz2.out;cases b with
    | false =>
      have hX2:=hf rfl;have hg2:R=JC vs (f.cls.drop (i+1)) (i+1):=by rw [hR.out,if_neg (by rw [hX2]; simp)]
      replace hg2:=ZpM hg2;clear hR ht hf hX2 hpl;delta b94_1 Za Zd Zb Zk Ze Zn Zp Zr Zq Zo Zh Zc Zm;by_cases hkl:k<f.cls[i].pats.length
      ·(repeat' (first | (simp only [↓Zz,ZA,ptrV,intV,ZpI,ZpJ,reduceCtorEq,ZpL,Jf,Jg,Zbj,Xk,ZaC,YQ, *]) | (refine ZV rfl (fun _ _ _ h=>h) ?_)))
       delta Zpz Za Zr Zc
       (repeat' (first | (simp only [↓Zz,ZA,ZpI,ZpJ, *]) | (refine ZV rfl (fun _ _ _ h=>h) ?_)))
       delta c94_2 Za Zm Zc
       (repeat' (first | (simp only [↓Zz,ZA,ptrV,ZpI,ZpJ, *]) | (with_reducible refine And.intro ?_ ?_)))
       all_goals rw [ZK (n:=(i:Int)+1) (by omega) (by omega)]
       ·exact ⟨i+1,by omega,rfl,hg2.out⟩
       ·omega
      ·(repeat' (first | (simp only [↓Zz,ZA,ptrV,intV,ZpI,ZpJ,reduceCtorEq,ZN,ZD,ZpL,undef,Jf,Jg,Zbj,Xk,ZaC,YQ, *]) | (refine ZV rfl (fun _ _ _ h=>h) ?_)))
       delta Zpz Za Zr Zc
       (repeat' (first | (simp only [↓Zz,ZA,ZpI,ZpJ, *]) | (refine ZV rfl (fun _ _ _ h=>h) ?_)))
       delta c94_2 Za Zm Zc
       (repeat' (first | (simp only [↓Zz,ZA,ptrV,ZpI,ZpJ, *]) | (with_reducible refine And.intro ?_ ?_)))
       all_goals rw [ZK (n:=(i:Int)+1) (by omega) (by omega)]
       ·exact ⟨i+1,by omega,rfl,hg2.out⟩
       ·omega
    | true =>
      obtain ⟨hml,hX⟩:=ht rfl;clear ht hf;delta b94_1 Za Zd Zb Zk Ze Zn Zp Zr Zq Zo Zh Zc Zm;by_cases hkl:k<f.cls[i].pats.length
      ·have hkv:k<vs.length:=by omega
       rw [ZgN hkl hkv] at hX;have hd:=ZbC hkl;have hi1:(k:Int)<(vs.length:Int):=by omega
       have hi2:(k:Int)<(f.cls[i].pats.length:Int):=by omega
       have hc:=hpp' k hkl hkv m (by omega);have hpl2:=Pa.mat_len f.cls[i].pats[k] vs[k] m;have hpd:=Wx hkl;have hed:=XI hkv;generalize f.cls[i].pats[k].mat vs[k] m=r at *
       obtain ⟨m',b'⟩:=r;simp only at hpl2;have hnew:=ZpM (show m'.length+pasSz (f.cls[i].pats.drop (k+1))≤1099511627776 by omega);replace hX:=ZpM hX;clear hd hml hpp' hpz1 hpl
       (repeat' (first | (simp only [↓Zz,ZA,ZI,ptrV,intV,ZpI,ZpJ,reduceCtorEq,ZpL,Jf,Jg,Zbj,Xk,Zay,Yd,ZaC,YQ,ZU,Zna, *]) | (refine ZJ mixed (fun _ _ _ _ e h=>⟨e.trans h.1,h.2⟩) _ (ZpN _) ?_) | (exact ZpN _) | (refine ZpQ (hc) ?_) | (with_reducible refine And.intro ?_ ?_)))
       all_goals rw [ZK (n:=(k:Int)+1) (by omega) (by omega)]
       ·refine ⟨k+1,m',b',by omega,rfl,rfl,rfl,fun h=>⟨hnew.out,?_⟩,fun h=>?_⟩
        ·subst h; rw [hX.out]; rfl
        ·subst h; rw [hX.out]; rfl
       ·omega
      ·rw [Zp9 (by omega)] at hX;have hX:X=(m,true):=by rw [hX]; rfl
       have hg2:R=((i:Int),m):=by rw [hR.out,hX]; rfl
       rw [hg2];clear hR hg2 hX hpl
       (repeat' (first | (simp only [↓Zz,ZA,ptrV,intV,ZpI,ZpJ,reduceCtorEq,ZN,ZD,ZpL,undef,Jf,Jg,Zbj,Xk,ZaC,YQ, *]) | (refine ZV rfl (fun _ _ _ h=>h) ?_)))
       delta Zpz Za Zr Zc
       (repeat' (first | (simp only [↓Zz,ZA,ZpI,ZpJ, *])))
       exact Yo rfl (by simp only [resV,YY,YX,ZC,ZpI,if_true,if_false,Zqg,Zp6,tupV, *]<;>rfl) ⟨_,rfl,Zqq hs0 _⟩
  ·rw [Zp9 (by omega)] at hR;have hR:R=(-1,[]):=hR;rw [hR];clear hR
   (repeat' (first | (simp only [↓Zz,ZA,ptrV,intV,ZpI,ZpJ,reduceCtorEq,ZpL,ZqG,Jf,Zbj,ZaC, *]) | (refine ZV rfl (fun _ _ _ h=>h) ?_)))
   delta c94_3 Zq
   (repeat' (first | (simp only [↓Zz,ZA,ZpJ,ZqG, *])))
   exact Yo rfl (by simp only [resV,YY,YX,ZC,ZpI,if_true,if_false,Zqg,Zp6,tupV, *]<;>rfl) ⟨_,rfl,GhV.tuple (ZpZ (Zp8 _ _) (ZpZ ((GhV.nil _).trans (Zqq hs0 _)) (GhL.nil _)))⟩
end Go.PV.YtglpmlbbaedbiaaGreat
end
section
open Bool renaming and_self→Zqo
open Go.PV.AH renaming set_same→ZpP,set_ne→ZpV,set_none→ZpO,get→ZpU
open Go.PV.SubH renaming refl→ZpN,of_set→ZpS
open List renaming drop→ZpL,map_cons→Zp3,map_nil→Zqa,length_cons→Zqb,length_nil→Zqh,getD_cons_succ→Zqw,getD_nil→Zqx,all_cons→Zqn,all_nil→Zqv,getElem?_cons_zero→ZqE,getElem?_cons_succ→ZqF,set_cons_zero→Zqs,set_cons_succ→Zqy
open Nat renaming reduceEqDiff→ZpI,reduceLT→ZpJ,reduceAdd→ZpT,reduceLeDiff→Zp1,succ_ne_self→Zp7,zero_add→Zp2,le_refl→ZpY
set_option maxRecDepth 20000
set_option maxHeartbeats 4000000
namespace Go.PV.YtglpmlbbaedbiaaGreat
open Go Go.Proofs
theorem Zar (i:Nat):AH.nil i=none:=rfl
theorem sub2 {H:AH} {r r':Nat} {b b':Blk} (h:H r=some b) (h':H r'=some b'):SubH ((AH.nil.set r b).set r' b') H:=fun i x hx=>by
 by_cases e:i=r'
 ·subst e; rw [ZpP] at hx; rw [h']; exact hx
 ·rw [ZpV _ _ e] at hx;by_cases e2:i=r
  ·subst e2; rw [ZpP] at hx; rw [h]; exact hx
  ·rw [ZpV _ _ e2] at hx; cases hx
def RvK (p:Pr) (fu d:Int) (H:AH) (R:EvR) (e:VE) (H':AH):Prop :=
 H'=H∧((∃ c v,R=.ok (c,v)∧e=.ret (.tuple [stV p c fu d 0,exV (v.ex p)]))∨(∃ k c d' x,¬ k=0∧R=.error k∧e=.ret (.tuple [stV p c fu d' k,exV x])))
theorem Zdd {p:Pr} {fu d:Int} {H:AH} {R:EvR} {f:FuncId} {xs:List VV} {K:VE→AH→Prop} (h:ZT Tryz.prog f xs H (RvK p fu d H R)) (h1:∀ c v,R=.ok (c,v)→K (.ret (.tuple [stV p c fu d 0,exV (v.ex p)])) H) (h2:∀ (k c d':Int) (x:Ex),¬ k=0→R=.error k→K (.ret (.tuple [stV p c fu d' k,exV x])) H):ZT Tryz.prog f xs H K:=h.mono fun e H' hq=>by
 obtain ⟨rfl,⟨c,v,hR,rfl⟩ | ⟨k,c,d',x,hk,hR,rfl⟩⟩:=hq
 ·exact h1 c v hR
 ·exact h2 k c d' x hk hR
abbrev RvHyp (p:Pr) (fu g:Int) (ev:EvF):Prop:=∀ c d e ns vs H,Zb4 p fu c e ns vs→(fu-c) * 5001+e.sz<g→0≤d→d≤2000→ZT Tryz.prog 31 [stV p c fu d 0,exV (e.putM true (bdL ns (ZL p vs)))] H (RvK p fu d H (ev c d e ns vs))
abbrev rvPost (i j:Nat) (p:Pr) (fu d:Int) (H:AH) (X:EvR):APost:=YI Tryz.prog [.cell i 106,.cell j 28] fun e H''=>∃ H',SubH H' H''∧RvK p fu d H X e H'
theorem rv_ok {i j:Nat} {p:Pr} {c fu d:Int} {v:Val} {H0 H:AH} {t:Nat→VV} {ri rj si sj:Nat} {e1 e2:TypeId} (hi:t i=ptrV ri 0) (hj:t j=ptrV rj 0) (ki:H ri=some (.cells e1 (stE p c fu d 0) si)) (kj:H rj=some (.cells e2 [iV (v.ex p).op,sV (v.ex p).name,exsV (v.ex p).kids] sj)) (hs:SubH H0 H):rvPost i j p fu d H0 (.ok (c,v)) .ret ⟨t,[]⟩ H :=
 ZfL hi hj ki kj ⟨H0,hs,rfl,.inl ⟨c,v,rfl,rfl⟩⟩
theorem rv_err {i j:Nat} {p:Pr} {k c fu d d':Int} {x:Ex} {H0 H:AH} {t:Nat→VV} {ri rj si sj:Nat} {e1 e2:TypeId} (hk:¬ k=0) (hi:t i=ptrV ri 0) (hj:t j=ptrV rj 0) (ki:H ri=some (.cells e1 (stE p c fu d' k) si)) (kj:H rj=some (.cells e2 [iV x.op,sV x.name,exsV x.kids] sj)) (hs:SubH H0 H):rvPost i j p fu d H0 (.error k) .ret ⟨t,[]⟩ H :=
 ZfL hi hj ki kj ⟨H0,hs,rfl,.inr ⟨k,c,d',x,hk,rfl,rfl⟩⟩
theorem Zl1 {p:Pr} {fu g c d:Int} {ev:EvF} (hev:RvHyp p fu g ev) {e:Ex} {ns:List ByteArray} {vs:List Val} (hg:Zb4 p fu c e ns vs) (hms:(fu-c) * 5001+e.sz<g) (hd:0≤d) (hd2:d<2000) {X:Ex} (hX:X=e.putM true (bdL ns (ZL p vs))) (H:AH) :
 ZT Tryz.prog 96 [stV p c fu d 0,exV X] H (RvK p fu d H (ev c (d+1) e ns vs)):=by
 refine WD ?_;refine ZE fd96 (by simp) ?_;delta c96 Zj Zi Zd Zb Zm Zg Zo Zr Za Zh;have hw:IntKind.i64.wrap (d+1)=d+1:=ZK (by omega) (by omega);have hw2:IntKind.i64.wrap (d+1-1)=d:=by rw [show d+1-1=d by omega]; exact ZK (by omega) (by omega)
 have hcl:=fun H=>hev c (d+1) e ns vs H hg hms (by omega) (by omega)
 rw [← hX] at hcl;clear hev hg hms hX
 (repeat' (first | (simp only [↓Zz,ZA,ptrV,ZpI,ZpJ,ZpT,Zp1,ZD,setAt,ZpL,undef,Zce,ZQ,Yq,Yd,Zbw,Xl,Yc,en_31, *]) | (refine ZB fun zr zh=>?_; have zg:=zh; (try simp only [ZpO] at zg))))
 rename_i r2 h2 g2 r3 h3 g3 r4 h4 g4;have f2:H r2=none:=by simpa using g2
 have f3:H r3=none:=g3.2;have f4:H r4=none:=by simp only [g4]
 have f5:H zr=none:=by simp only [zg]
 have d45:¬ r4=zr∧¬ zr=r4:=by simp only [zg]; simp
 revert zr
 intro r5 h5 g5 f5 d45;refine Zdd (hcl _) (fun c' v hR=>?_) (fun k c' d' x hk hR=>?_)
 ·rw [hR];clear hcl hR
  (repeat' (first | (refine ZJ mixed (fun _ _ _ _ e h=>⟨e.trans h.1,h.2⟩) _ (sub2 (r:=r2) (r':=zr) (by simp only [ZpU, *,if_true,if_false]<;>rfl) (by simp only [ZpU, *,if_true,if_false]<;>rfl)) ?_) | (refine sub2 (by simp only [ZpU, *,if_true,if_false]<;>rfl) (by simp only [ZpU, *,if_true,if_false]<;>rfl)) | (simp only [↓Wg,↓XM,↓WX,↓Wb,↓Xe,↓Yf,↓Yi,↓Yu,↓Yr,↓XJ,↓Ys,↓XK,↓Yt,↓YS,↓ZC,↓Xb,↓YA,↓YU,↓Wr,↓Wv,↓Yb,↓Wh,↓Zch,ZI,ptrV,Zp3,Zqa,Zqb,Zqh,Zqw,Zqx,ite_true,ite_false,ZpI,ZpJ,ZpT,Zp1,ne_eq,not_false_eq_true,true_and,Zp7,↓YV,↓YK,↓YL,ZpU,setAt,Zqn,Zqv,Zqo,eq_self,Zp2,ZpL,ZqE,ZqF,Wi,XT,Jb,Zap,XS,We,YT,Xi,Zqs,Zqy,↓Ww,XW,ZpY,XG,WY,XH,Xr,WO,WP,WQ,↓Ws,↓WC,Zar,Zce,ZQ,Yq,Yd,Zbw,Yn,YE,Yc, *]) | (refine ZB fun zr zh=>?_; have zg:=zh; (try simp only [ZpO] at zg)) | (with_reducible refine And.intro ?_ ?_)))
  have fz:H zr=none:=by simp only [zg]
  exact rv_ok (ri:=r4) (rj:=r5) (by simp only [ZC,ZpI,if_true,if_false, *]<;>rfl) (by simp only [ZC,ZpI,if_true,if_false, *]<;>rfl) (by rw [ZpV _ _ d45.1,ZpP]) (ZpP _ _ _) (by repeat (first | exact ZpN _ | assumption | refine ZpS ?_ (by assumption)))
 ·rw [hR];clear hcl hR
  (repeat' (first | (refine ZJ mixed (fun _ _ _ _ e h=>⟨e.trans h.1,h.2⟩) _ (sub2 (r:=r2) (r':=zr) (by simp only [ZpU, *,if_true,if_false]<;>rfl) (by simp only [ZpU, *,if_true,if_false]<;>rfl)) ?_) | (refine sub2 (by simp only [ZpU, *,if_true,if_false]<;>rfl) (by simp only [ZpU, *,if_true,if_false]<;>rfl)) | (simp only [↓Wg,↓XM,↓WX,↓Wb,↓Xe,↓Yf,↓Yi,↓Yu,↓Yr,↓XJ,↓Ys,↓XK,↓Yt,↓YS,↓ZC,↓Xb,↓YA,↓YU,↓Wr,↓Wv,↓Yb,↓Wh,↓Zch,ZI,ptrV,Zp3,Zqa,Zqb,Zqh,Zqw,Zqx,ite_true,ite_false,ZpI,ZpJ,ZpT,Zp1,ne_eq,not_false_eq_true,true_and,Zp7,↓YV,↓YK,↓YL,ZpU,setAt,Zqn,Zqv,Zqo,eq_self,Zp2,ZpL,ZqE,ZqF,Wi,XT,Jb,Zap,XS,We,YT,Xi,Zqs,Zqy,↓Ww,XW,ZpY,XG,WY,XH,Xr,WO,WP,WQ,↓Ws,↓WC,Zar,Zce,ZQ,Yq,Yd,Zbw,Yn,YE,Yc, *]) | (refine ZB fun zr zh=>?_; have zg:=zh; (try simp only [ZpO] at zg)) | (with_reducible refine And.intro ?_ ?_)))
  have fz:H zr=none:=by simp only [zg]
  exact rv_err (ri:=r4) (rj:=r5) (x:=x) hk (by simp only [ZC,ZpI,if_true,if_false, *]<;>rfl) (by simp only [ZC,ZpI,if_true,if_false, *]<;>rfl) (by rw [ZpV _ _ d45.1,ZpP]) (ZpP _ _ _) (by repeat (first | exact ZpN _ | assumption | refine ZpS ?_ (by assumption)))
end Go.PV.YtglpmlbbaedbiaaGreat
end
