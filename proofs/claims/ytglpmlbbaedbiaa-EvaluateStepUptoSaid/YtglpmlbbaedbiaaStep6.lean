/- Part 6 of 11 of what the proof of Step needs. -/
import Derived.Test.YtglpmlbbaedbiaaStep5
set_option linter.unusedVariables false
set_option linter.unusedSimpArgs false
set_option linter.defProp false
section
open Bool renaming and_self→Zp3
open Go.PV.AH renaming set_none→Zpb,del_ne→Zpz,set_same→Zpc,get→Zpf,ne_of→Zo6,set_ne→Zpg,set_set→ZpA
open Go.PV.GhV renaming refl→Zpt
open Go.PV.Hold renaming mk→Zo8
open Go.PV.PureF renaming forget→ZpF,use→Zpe
open Go.PV.SubH renaming refl→Zpa,of_set→Zpi,new→Zph
open Int renaming reduceNeg→Zp1
open List renaming drop→Zo9,drop_zero→ZpV,map_cons→Zpp,map_nil→Zpw,length_cons→Zpx,length_nil→Zp0,all_cons→ZpU,set_cons_zero→Zp5,drop_eq_getElem_cons→ZpI,getElem_mem→Zpk,drop_eq_nil_of_le→ZpC,getD_cons_zero→ZpN,getD_cons_succ→ZpK,getD_nil→ZpL,take_of_length_le→ZpD
open Nat renaming reduceEqDiff→Zo5,reduceLT→Zo7,succ_ne_self→Zpv,zero_add→Zpu,le_refl→Zpl,reduceAdd→Zpd
open Option renaming map_some→Zps
set_option maxRecDepth 20000
set_option maxHeartbeats 4000000
namespace Go.PV.Ytglpmlbbaedbiaa
open Go Go.Proofs
theorem Zlo (p:Pa):PureF Try.prog 107 [paV p] (boolV (!p.con)):=by
 refine ZpF fun H=>?_
 refine ZK fd107 (by simp) ?_;delta c107 Zj Zq Zd Zb Zr Zc
 (repeat' (first | (simp only [↓ZF,ZG,ptrV,boolV,Zo5,Zo7,ZJ,Zo9,undef,WY,Zc3, *]) | (refine ZM ?_) | (refine ZH fun zr zh=>?_; have zg:=zh; (try simp only [Zpb] at zg)) | (exact Zpa _) | (refine Zpi ?_ ?_)))
theorem isCon_ok (p:Pa):PureF Try.prog 108 [paV p] (boolV p.con):=by
 refine ZpF fun H=>?_
 refine ZK fd108 (by simp) ?_;delta c108 Zj Zq Zd Zb Zc
 (repeat' (first | (simp only [↓ZF,ZG,ptrV,boolV,Zo5,Zo7,ZJ,Zo9,undef,WY,Zc3, *]) | (refine ZM ?_) | (refine ZH fun zr zh=>?_; have zg:=zh; (try simp only [Zpb] at zg)) | (exact Zpa _) | (refine Zpi ?_ ?_)))
mutual
theorem Pa.all_around:∀ (p:Pa) (a:Int),∀ x∈p.all a,a≤x.2∧x.2<a+p.sz
 | .mk c n ks,a,x,h=>by
   rw [Pa.all] at h;rw [Pa.sz];rcases List.mem_cons.1 h with rfl | h
   ·dsimp only; omega
   ·have:=ZdM ks (a+1) x h; omega
theorem ZdM:∀ (l:List Pa) (a:Int),∀ x∈XH l a,a≤x.2∧x.2<a+pasSz l
 | [],a,x,h=>by cases h
 | p::l,a,x,h=>by
   rw [XH] at h;rw [pasSz];rcases List.mem_append.1 h with h | h
   ·have:=Pa.all_around p a x h; omega
   ·have:=ZdM l a x h; omega
end
def dpL (l:List Pl):Int:=l.foldl (fun d x=>max d (x.2+1)) 0
theorem dpL_snoc (l:List Pl) (x:Pl):dpL (l++[x])=max (dpL l) (x.2+1):=by rw [dpL,List.foldl_append]; rfl
def plErr (l:List Co) (x:Pl):Int :=
 if nameB x.1.name=true∧¬ (x.1.con=false∧0<x.1.kids.length) then
  (if x.1.con=true then (if atCo l x.1.name<0 then 9 else if (x.1.kids.length:Int)=(match l[(atCo l x.1.name).toNat]? with | some c=>c.arity | none=>0) then 0 else 5) else 0)
 else 411
def Zcx (l:List Co):List Pl→Int
 | []=>0
 | x::m=>if plErr l x=0 then Zcx l m else plErr l x
def paChk (l:List Co) (p:Pa):Int:=if 100<p.sz then 7 else if 50<dpL (p.all 0) then 6 else Zcx l (p.all 0)
theorem ZiZ {t:Nat→VV} {r4 sp:Nat} {e:TypeId} {c R:Int} {H H0:AH} (h4:t 4=ptrV r4 0) (k4:H r4=some (.cells e [iV c] sp)) (hc:c=R) (hs:SubH H0 H):XM Try.prog [.cell 4 35] (fun e H'=>e=.ret (iV R)∧SubH H0 H') t [] .returning H:=by
 subst hc;refine ⟨iV c,H,iV c,?_,Zpt _ _,rfl,hs⟩;simp only [resV,Xi,Xh,ZeS,h4,k4,ptrV,ZpV,Zps];rfl
theorem ZnE {t:Nat→VV} {r4 r sp:Nat} {e:TypeId} {c R:Int} {H H0:AH} (h4:t 4=ptrV r4 0) (k4:H r4=some (.cells e [iV c] sp)) (hc:c=R) (hne:r4 ≠ r) (qr:H r=some (.obj (.deferred (some [])))) (hs:SubH H0 H) (gr:H0 r=none) :
 ZbP Try.prog [.cell 4 35] (fun e H'=>e=.ret (iV R)∧SubH H0 H') .ret ⟨t,[WS r]⟩ H:=⟨by simp,qr,ZiZ h4 (by rw [Zpz _ hne]; exact k4) hc (hs.del gr)⟩
theorem Zlp {t:Nat→VV} {r4 r r' sp:Nat} {e:TypeId} {c R:Int} {H H0:AH} (h4:t 4=ptrV r4 0) (k4:H r4=some (.cells e [iV c] sp)) (hc:c=R) (hne:r4 ≠ r) (hne':r4 ≠ r') (hrr:r ≠ r') (qr:H r=some (.obj (.deferred (some [])))) (qr':H r'=some (.obj (.deferred (some [])))) (hs:SubH H0 H) (gr:H0 r=none) (gr':H0 r'=none) :
 XM Try.prog [.cell 4 35] (fun e H'=>e=.ret (iV R)∧SubH H0 H') t [WS r',WS r] .returning H:=⟨by simp,qr',by simp,by rw [Zpz _ hrr]; exact qr,ZiZ h4 (by rw [Zpz _ hne,Zpz _ hne']; exact k4) hc ((hs.del gr').del gr)⟩
theorem pcheck2 {p:Pa} {l:List Co} {t:Nat→VV} {r r2 r3 r4 r5 r6:Nat} {H0 B:AH} {R:Int} (hp:p.sz≤1099511627776) (hl:l.length≤1099511627776) (hnm:∀ x∈p.all 0,x.1.name.size≤1099511627776) (hR:R=paChk l p) (hs:SubH H0 B) (q2:B r2=some (.cells 57 [bV p.con,sV p.name,encS paE p.kids] 0)) (q3:B r3=some (.cells 77 [cosV l] 0)) (q4:B r4=some (.cells 35 [iV 0] 0)) (q5:B r5=some (.cells 3 [iV p.sz] 0)) (q6:B r6=some (.cells 3 [iV (dpL (p.all 0))] 0)) (qr:B r=some (.obj (.deferred (some [])))) (g4:H0 r4=none) (gr:H0 r=none)
 (t2:t 2=ptrV r2 0) (t3:t 3=ptrV r3 0) (t4:t 4=ptrV r4 0) (t5:t 5=ptrV r5 0) (t6:t 6=ptrV r6 0):ACx ⟨Try.prog,76,none⟩ ZoX (ZbP Try.prog [.cell 4 35] fun e H'=>e=.ret (iV R)∧SubH H0 H') ⟨t,[WS r]⟩ B:=by
 unfold paChk at hR;delta ZoX Zb Zm Zc Zr Zo Zi Zg Zd Zq Za Zp;have d4r:r4 ≠ r:=fun e=>by rw [e,qr] at q4; simp at q4
 have dr4:¬ r=r4:=Ne.symm d4r;replace hR:=Zo8 hR;refine Ya rfl (fun _ _ _ h=>h) ?_
 (repeat' (first | (refine ZmU p (fun rb nb=>?_)) | (simp only [↓Wj,↓Xx,↓Xy,↓Zbm,↓Xm,↓YS,↓ZaU,↓ZgP,↓XA,↓Yo,↓Ys,↓WK,↓Zb9,↓Zgm,↓YJ,↓YG,↓WP,↓YH,↓WQ,↓YI,↓YT,↓Wk,↓ZI,↓YB,↓YR,↓Wu,↓Wc,↓Xk,↓YX,↓WH,ptrV,Zpp,Zpw,Zpx,Zp0,ite_true,ite_false,Zo5,Zo7,true_and,Zpv,decide_true,decide_false,setAt,ZpU,List.all_nil,Zp3,eq_self,Zpu,Zo9,We,XY,ZeV,JH,Zp5,Zpl,Wf,Wg,XF,Zbe,Zbf,Yg,XB,ZaI,Zkf, *]) | (refine Yf ?_ ?_<;>intro)))
 ·have h1:100<p.sz:=by omega
  exact ZnE (by simp only [ZI,Zo5,if_false, *]<;>rfl) (Zpc _ _ _) (by rw [hR.out,if_pos h1]) d4r (by simp only [Zpf, *,if_false]<;>rfl) (hs.of_set g4) gr
 ·have h1:¬ 100<p.sz:=by omega
  exact ZnE (by simp only [ZI,Zo5,if_false, *]<;>rfl) (Zpc _ _ _) (by rw [hR.out,if_neg h1,if_pos (by assumption)]) d4r (by simp only [Zpf, *,if_false]<;>rfl) (hs.of_set g4) gr
 have hR2:R=Zcx l (p.all 0):=by rw [hR.out,if_neg (by omega),if_neg (by assumption)]
 clear hR;have nb4:=Zo6 q4 nb;have nbr:=Zo6 qr nb
 refine Za2 (fun t H=>SubH B H∧H rb=some (.cells 57 [bV p.con,sV p.name,encS paE p.kids] 0)∧t 2=ptrV r2 0∧t 3=ptrV r3 0∧t 4=ptrV r4 0∧t 27=.func (.func 111) [] [ptrV rb 0])
  ⟨Zph nb,Zpc _ _ _,(by simp only [ZI,Zo5,if_false, *]<;>rfl),(by simp only [ZI,Zo5,if_false, *]<;>rfl),(by simp only [ZI,Zo5,if_false, *]<;>rfl),(by simp only [ZI,Zo5,if_true,if_false, *]<;>rfl)⟩ ?_
 clear t2 t3 t4 t5 t6;rintro t Hx ⟨sx,xb,t2,t3,t4,t27⟩;replace q3:=sx _ _ q3;replace q4:=sx _ _ q4;replace qr:=sx _ _ qr;replace hs:=hs.trans sx;clear sx nb nb4 nbr q2 q5 q6 B;replace hR2:=Zo8 hR2;refine ZbE rfl (.inl t27) (by kernel_rfl) ?_;intro r' l0 fn ca cb hca hcb hr hl0 hne hfn;have e4:=Zo6 q4 hr;have f4:=Zo6 q4 hl0;have e3:=Zo6 q3 hr;have f3:=Zo6 q3 hl0;have er:=Zo6 qr hr;have fr:=Zo6 qr hl0;have d34:r3 ≠ r4:=fun e=>by rw [e,q4] at q3; simp at q3
 have gr':H0 r'=none:=hs.none hr;have gl:H0 l0=none:=hs.none hl0;obtain ⟨Hb,hHb⟩:∃ Hb,Hb=(Hx.del r4).set r' (.obj (.deferred (some []))):=⟨_,rfl⟩
 have b4:Hb r4=none:=by rw [hHb,Zpg _ _ e4.1,AH.del_same]
 have bl:Hb l0=none:=by rw [hHb,Zpg _ _ hne,Zpz _ f4.2]; exact hl0
 have b3:Hb r3=some (.cells 77 [cosV l] 0):=by rw [hHb,Zpg _ _ e3.1,Zpz _ d34]; exact q3
 have br:Hb r=some (.obj (.deferred (some []))):=by rw [hHb,Zpg _ _ er.1,Zpz _ (Ne.symm d4r)]; exact qr
 have br':Hb r'=some (.obj (.deferred (some []))):=by rw [hHb]; exact Zpc _ _ _
 have hsb:SubH H0 Hb:=fun i b h=>by
  have hx:=hs _ _ h;rw [hHb,Zpg _ _ (Zo6 hx hr).1,Zpz _ (fun e=>by rw [e,g4] at h; cases h)];exact hx
 refine allRun (p:=p) (Mut:=fun x=>x=l0∨x=r4) (Inv:=fun k B=>SubH Hb B∧B l0=some (.loop .ready none fn 76 t #[28] ca cb r')∧B r4=some (.cells 35 [iV 0] 0)∧R=Zcx l ((p.all 0).drop k)) (Stop:=fun k B=>SubH Hb B∧B l0=some (.loop .done (some .ret) fn 76 t #[28] ca cb r')∧B r4=some (.cells 35 [iV R] 0))
  (fun k B B' h hs=>⟨h.1.trans hs,hs _ _ h.2.1,hs _ _ h.2.2.1,h.2.2.2⟩) (fun k B x h hm=>?_) hp ?_ (fun _ _ _=>rfl) rfl rfl (s0:=0) ?_ ?_ ?_ ?_
 ·rcases hm with rfl | rfl
  ·rw [h.2.1]; simp
  ·rw [h.2.2.1]; simp
 ·rintro k hk B ⟨hB,hBl,h4,hRk⟩ K' hk1 hk2;replace hRk:R=if plErr l (p.all 0)[k]=0 then Zcx l ((p.all 0).drop (k+1)) else plErr l (p.all 0)[k]:=by rw [hRk,ZpI hk,Zcx]
  have hxn:=hnm _ (Zpk hk);generalize (p.all 0)[k]=x at *
  have k3:=hB _ _ b3;have kr:=hB _ _ br;have kr':=hB _ _ br';have c1:=Zkp l x.1.name hl;have c2:=Zdd x.1.name hxn;have c3:PureF Try.prog 107 [.agg [bV x.1.con,sV x.1.name,encS paE x.1.kids]] (boolV (!x.1.con)):=Zlo x.1;have c4:PureF Try.prog 108 [.agg [bV x.1.con,sV x.1.name,encS paE x.1.kids]] (boolV x.1.con):=isCon_ok x.1
  have hat:atCo l x.1.name = -1∨∃ j:Nat,∃ h:j<l.length,atCo l x.1.name=j:=by
   rcases WA (fun c:Co=>decide (c.name=x.1.name)) l with ⟨h,_⟩ | ⟨j,h,hj,_⟩
   ·exact .inl h
   ·exact .inr ⟨j,h,hj⟩
  have hstop:∀ (H:AH) (c:Int),c=R→SubH Hb (H.set l0 (.loop .done (some .ret) fn 76 t #[28] ca cb r'))→H r4=some (.cells 35 [iV c] 0)→K' (.ret (boolV false)) (H.set l0 (.loop .done (some .ret) fn 76 t #[28] ca cb r')):=fun H c hc h1 h2=>by
   subst hc;exact hk2 _ ⟨h1,Zpc _ _ _,by rw [Zpg _ _ f4.1]; exact h2⟩
  unfold plErr at hRk;show ACall Try.prog none _ [.agg [bV x.1.con,sV x.1.name,encS paE x.1.kids,iV x.2]] B K';generalize x.1.con=xc at *
  generalize x.1.name=xn at *
  generalize x.1.kids=xk at *
  generalize x.2=xa at *
  clear hxn hR2;generalize hnb:nameB xn=nb at *
  generalize hac:atCo l xn=ac at *
  generalize Zcx l ((p.all 0).drop (k+1))=R' at *
  replace hRk:=Zo8 hRk;replace hstop:=Zo8 hstop;refine Zad (l:=l0) (pe:=none) (fn:=fn) (N:=76) (t:=t) (ps:=#[28]) («asg»:=ca) (bd:=cb) (ds:=r') hBl rfl (by simp) hfn ?_;refine ZdD hca ?_
  (repeat' (first | (simp only [↓ZF,ZG,ptrV,Zo5,Zo7,Zpd,setAt,Zat,ZjN,ZfI, *]) | (refine Ya rfl (fun _ _ _ h=>h) ?_) | (refine ZH fun zr zh=>?_; have zg:=zh; (try simp only [Zpb] at zg); (try have zn_h4:=Zo6 h4 zh); (try have zn_h4:=Zo6 h4 zg.2); (try have zn_h4:=Zo6 h4 zg.2.2); (try have zn_k3:=Zo6 k3 zh); (try have zn_k3:=Zo6 k3 zg.2); (try have zn_k3:=Zo6 k3 zg.2.2); (try have zn_kr:=Zo6 kr zh); (try have zn_kr:=Zo6 kr zg.2); (try have zn_kr:=Zo6 kr zg.2.2); (try have zn_kr':=Zo6 kr' zh); (try have zn_kr':=Zo6 kr' zg.2); (try have zn_kr':=Zo6 kr' zg.2.2); (try have zn_hBl:=Zo6 hBl zh); (try have zn_hBl:=Zo6 hBl zg.2); (try have zn_hBl:=Zo6 hBl zg.2.2)) | (with_reducible refine And.intro ?_ ?_)))
  ·exact ⟨none,rfl⟩
  ·intro pe;refine ZdD hcb ?_;have hfl:∀ b1 b2 b3 b4,SubH Hb ((((B.set zr b1).set l0 b2).set r4 b3).set l0 b4):=fun _ _ _ _=>(((hB.of_set (hB.none zh)).of_set bl).of_set b4).of_set bl
   cases nb with
   | false =>
     have e:=Zo8 (show (411:Int)=R by rw [hRk.out]; simp);clear hRk
     (repeat' (first | (simp only [↓ZF,ZG,ZcS,ptrV,boolV,Zo5,Zo7,reduceCtorEq,Yb,ZJ,setAt,Zo9,undef,Zaa,Wb,Wr,Ym,ZaI,Zaw,Ze2,Zdw, *]) | (refine Ya rfl (fun _ _ _ h=>h) ?_) | (refine Zpe (c1) ?_) | (refine Zpe (c2) ?_)))
     exact ⟨⟨pe,(by simp only [Zpf, *,if_true,if_false]<;>rfl)⟩,hstop.out _ _ e.out (hfl _ _ _ _) (Zpc _ _ _)⟩
   | true =>
     cases xc with
     | false =>
       by_cases hkk:0<xk.length
       ·have hkk2:(0:Int)<(xk.length:Int):=by omega
        have e:=Zo8 (show (411:Int)=R by rw [hRk.out]; simp [hkk]);clear hRk
        (repeat' (first | (simp only [↓ZF,ZG,ptrV,intV,boolV,Zo5,Zo7,reduceCtorEq,setAt,Zo9,Zaa,Wb,XD,XB,Wr,Ym,Wi,ZaI,Xl,Zaw,Ze2,Zdw, *]) | (refine Ya rfl (fun _ _ _ h=>h) ?_) | (refine Zpe (c1) ?_) | (refine Zpe (c2) ?_) | (refine Zpe (c3) ?_)))
        exact ⟨⟨pe,(by simp only [Zpf, *,if_true,if_false]<;>rfl)⟩,hstop.out _ _ e.out (hfl _ _ _ _) (Zpc _ _ _)⟩
       ·have hkk2:¬ (0:Int)<(xk.length:Int):=by omega
        have e:=Zo8 (show R=R' by rw [hRk.out]; simp [hkk]);clear hRk
        (repeat' (first | (simp only [↓ZF,ZG,ptrV,intV,boolV,Zo5,Zo7,reduceCtorEq,Yb,ZJ,Zo9,undef,Zaa,Wb,XD,XB,Wr,Ym,Wi,Xl,Zaw,Ze2,Zdw,Zik, *]) | (refine Ya rfl (fun _ _ _ h=>h) ?_) | (refine ZR mixed (fun _ _ _ _ e h=>⟨e.trans h.1,h.2⟩) _ (Zpa _) ?_) | (exact Zpa _) | (refine Zpe (c1) ?_) | (refine Zpe (c2) ?_) | (refine Zpe (c3) ?_) | (refine Zpe (c4) ?_) | (with_reducible refine And.intro ?_ ?_)))
        exact ⟨⟨pe,Zpc _ _ _⟩,hk1 _ ⟨by rw [ZpA]; exact (hB.of_set (hB.none zh)).of_set bl,Zpc _ _ _,(by simp only [Zpf, *,if_false]<;>rfl),e.out⟩ (fun i b hm hb=>by rw [ZpA,Zpg _ _ (fun h=>hm (.inl h)),Zpg _ _ (Zo6 hb zh).1]; exact hb)⟩
     | true =>
       rcases hat with rfl | ⟨j,hj,rfl⟩
       ·have e:=Zo8 (show (9:Int)=R by rw [hRk.out]; simp);clear hRk
        (repeat' (first | (simp only [↓ZF,ZG,ptrV,boolV,Zo5,Zo7,reduceCtorEq,Yb,ZJ,setAt,Zo9,undef,Int.reduceLT,Zp1,Zaa,Wb,XB,Wr,Ym,ZaI,Zaw,Ze2,Zdw,Zik, *]) | (refine Ya rfl (fun _ _ _ h=>h) ?_) | (refine Zpe (c1) ?_) | (refine Zpe (c2) ?_) | (refine Zpe (c3) ?_) | (refine Zpe (c4) ?_)))
        exact ⟨⟨pe,(by simp only [Zpf, *,if_true,if_false]<;>rfl)⟩,hstop.out _ _ e.out (hfl _ _ _ _) (Zpc _ _ _)⟩
       ·have hcd:=ZdF hj;have hjl:(j:Int)<(l.length:Int):=by omega
        have hj0:¬ (j:Int)<0:=by omega
        have hgj:l[(j:Int).toNat]?=some l[j]:=by simp [hj]
        by_cases hka:(xk.length:Int)=l[j].arity
        ·have e:=Zo8 (show R=R' by rw [hRk.out]; simp [hj,hka]);clear hRk
         (repeat' (first | (simp only [↓ZF,ZG,ptrV,intV,boolV,Zo5,Zo7,reduceCtorEq,Yb,ZJ,Zo9,undef,Zaa,Wb,XD,ZbM,Yg,XB,Wr,Ym,Wi,Zar,Xl,Zaw,Ze2,Zdw,Zik, *]) | (refine Ya rfl (fun _ _ _ h=>h) ?_) | (refine ZR mixed (fun _ _ _ _ e h=>⟨e.trans h.1,h.2⟩) _ (Zpa _) ?_) | (exact Zpa _) | (refine Zpe (c1) ?_) | (refine Zpe (c2) ?_) | (refine Zpe (c3) ?_) | (refine Zpe (c4) ?_) | (with_reducible refine And.intro ?_ ?_)))
         exact ⟨⟨pe,Zpc _ _ _⟩,hk1 _ ⟨by rw [ZpA]; exact (hB.of_set (hB.none zh)).of_set bl,Zpc _ _ _,(by simp only [Zpf, *,if_false]<;>rfl),e.out⟩ (fun i b hm hb=>by rw [ZpA,Zpg _ _ (fun h=>hm (.inl h)),Zpg _ _ (Zo6 hb zh).1]; exact hb)⟩
        ·have e:=Zo8 (show (5:Int)=R by rw [hRk.out]; simp [hj,hka,hj0]);clear hRk
         (repeat' (first | (simp only [↓ZF,ZG,ptrV,intV,boolV,Zo5,Zo7,reduceCtorEq,Yb,ZJ,setAt,Zo9,undef,Zaa,Wb,XD,ZbM,Yg,XB,Wr,Ym,Wi,ZaI,Zar,Xl,Zaw,Ze2,Zdw,Zik, *]) | (refine Ya rfl (fun _ _ _ h=>h) ?_) | (refine ZR mixed (fun _ _ _ _ e h=>⟨e.trans h.1,h.2⟩) _ (Zpa _) ?_) | (exact Zpa _) | (refine Zpe (c1) ?_) | (refine Zpe (c2) ?_) | (refine Zpe (c3) ?_) | (refine Zpe (c4) ?_) | (with_reducible refine And.intro ?_ ?_)))
         exact ⟨⟨pe,(by simp only [Zpf, *,if_true,if_false]<;>rfl)⟩,hstop.out _ _ e.out (hfl _ _ _ _) (Zpc _ _ _)⟩
 ·have eb:=Zo6 xb hr;have fb:=Zo6 xb hl0;rw [Zpg _ _ fb.1,Zpg _ _ eb.1]; exact xb
 ·refine ⟨fun i b hb=>?_,Zpc _ _ _,?_,hR2.out⟩
  ·have i1:i ≠ l0:=fun h=>by rw [h,bl] at hb; cases hb
   rw [Zpg _ _ i1];by_cases ir:i=r'
   ·subst ir; rw [hHb,Zpc] at hb; rw [Zpc]; exact hb
   ·rw [Zpg _ _ ir];rw [hHb,Zpg _ _ ir,AH.del_get] at hb;split at hb
    ·cases hb
    ·exact hb
  ·rw [Zpg _ _ f4.1,Zpg _ _ e4.1]; exact q4
 ·rintro B u ⟨hB,hBl,h4,hk⟩;refine ⟨.ready,none,hBl,by simp,?_⟩;rw [← p.all_len 0,ZpC (Zpl _)] at hk;have hk:R=0:=hk;show ACx _ c96_1 _ _ _;have k4:(B.del l0) r4=some (.cells 35 [iV 0] 0):=by rw [Zpz _ f4.1]; exact h4
  have kr:(B.del l0) r=some (.obj (.deferred (some []))):=by rw [Zpz _ fr.1]; exact hB _ _ br
  have kr':(B.del l0) r'=some (.obj (.deferred (some []))):=by rw [Zpz _ (Ne.symm hne)]; exact hB _ _ br'
  have hsB:SubH H0 (B.del l0):=(hsb.trans hB).del gl;generalize B.del l0=B2 at *
  delta c96_1 Zr;refine Ya rfl (fun _ _ _ h=>h) ?_;clear hB hBl h4
  (repeat' (first | (simp only [↓ZF,ZG,ptrV,setAt,ZaI, *])))
  refine Zlp (r:=r) (r':=r') t4 (Zpc _ _ _) rfl d4r e4.1 er.1 (by simp only [Zpf, *,if_false]<;>rfl) (by simp only [Zpf, *,if_false]<;>rfl) (hsB.of_set g4) gr gr'
 ·rintro k B u ⟨hB,hBl,h4⟩;refine ⟨.done,some .ret,hBl,by simp,?_⟩;show XM Try.prog [.cell 4 35] _ t [WS r',WS r] .returning (B.del l0);exact Zlp t4 (by rw [Zpz _ f4.1]; exact h4) rfl d4r e4.1 er.1 (by rw [Zpz _ fr.1]; exact hB _ _ br) (by rw [Zpz _ (Ne.symm hne)]; exact hB _ _ br') ((hsb.trans hB).del gl) gr gr'
theorem Zok (p:Pa) (l:List Co) (hp:p.sz≤1099511627776) (hl:l.length≤1099511627776) (hnm:∀ x∈p.all 0,x.1.name.size≤1099511627776):PureF Try.prog 96 [paV p,cosV l] (iV (paChk l p)):=by
 refine ZpF fun H0=>?_
 refine Jf fd96 (by simp) ?_;delta c96 Zj Zi Zr Zb Zo Zg Zm Zd Zq;obtain ⟨R,hR⟩:∃ R,R=paChk l p:=⟨_,rfl⟩
 rw [← hR];replace hR:=Zo8 hR
 (repeat' (first | (refine ZmU p (fun rb nb=>?_)) | (simp only [↓Xx,↓Xy,↓Zbm,↓YS,↓ZgP,↓XA,↓Yo,↓Ys,↓YJ,↓YG,↓WP,↓YH,↓WQ,↓YI,↓YT,↓Wk,↓ZI,↓YR,↓Wu,↓XQ,↓Zax,↓Xk,↓YX,ptrV,Zpp,Zpw,Zpx,Zp0,ZpN,ZpK,ZpL,ite_true,ite_false,Zo5,Zo7,true_and,Zpv,ZJ,Zpf,setAt,ZpU,List.all_nil,Zp3,eq_self,Zpu,Zo9,XY,ZeV,JH,Xw,Ze5,Zp5,↓XS,Xt,↓Zaz,Zpl,Wf,Wg,XF,Zbe,Zbf,undef,XB,Zc5,Zld,zeroT_3,Zkf, *]) | (refine ZH fun zr zh=>?_; have zg:=zh; (try simp only [Zpb] at zg))))
 rename_i r2 n2 n2' r3 n3 n3' r4 n4 n4' r5 n5 n5';simp only [Zpb] at nb;have d56:r5 ≠ zr:=fun h=>zg.1.1 h.symm
 have g2:=n2';have g3:=n3'.2;have g4:=n4'.2.2;have g5:=n5'.2.2.2;have g6:=zg.2.2.2.2
 refine Za2 (fun t H=>SubH H0 H∧H r2=some (.cells 57 [bV p.con,sV p.name,encS paE p.kids] 0)∧H r3=some (.cells 77 [cosV l] 0)∧H r4=some (.cells 35 [iV 0] 0)∧H r5=some (.cells 3 [iV 0] 0)∧H zr=some (.cells 3 [iV 0] 0)∧H rb=some (.cells 57 [bV p.con,sV p.name,encS paE p.kids] 0)∧t 2=ptrV r2 0∧t 3=ptrV r3 0∧t 4=ptrV r4 0∧t 5=ptrV r5 0∧t 6=ptrV zr 0∧t 11=.func (.func 111) [] [ptrV rb 0])
  ⟨?_,(by simp only [Zpf, *,if_true,if_false]<;>rfl),(by simp only [Zpf, *,if_true,if_false]<;>rfl),(by simp only [Zpf, *,if_true,if_false]<;>rfl),(by simp only [Zpf, *,if_true,if_false]<;>rfl),(by simp only [Zpf, *,if_true,if_false]<;>rfl),(by simp only [Zpf, *,if_true,if_false]<;>rfl),(by simp only [ZI,Zo5,if_true,if_false, *]<;>rfl),(by simp only [ZI,Zo5,if_true,if_false, *]<;>rfl),(by simp only [ZI,Zo5,if_true,if_false, *]<;>rfl),(by simp only [ZI,Zo5,if_true,if_false, *]<;>rfl),(by simp only [ZI,Zo5,if_true,if_false, *]<;>rfl),(by simp only [ZI,Zo5,if_true,if_false, *]<;>rfl)⟩ ?_
 ·exact (((((((Zph g2).of_set g3).of_set g4).of_set g5).of_set g6).of_set g5).of_set g6).of_set (by simp only [nb])
 clear nb n2 n2' n3 n3' n4 n4' n5 n5' zg zh;generalize zr=r6 at *
 rintro t Hx ⟨xs,x2,x3,x4,x5,x6,xb,t2,t3,t4,t5,t6,t11⟩;refine ZbE rfl (.inl t11) (by kernel_rfl) ?_;intro r l0 fn ca cb hca hcb hr hl0 hne hfn;have e5:=Zo6 x5 hr;have e6:=Zo6 x6 hr;have f5:=Zo6 x5 hl0;have f6:=Zo6 x6 hl0;obtain ⟨Hb,hHb⟩:∃ Hb,Hb=((Hx.del r5).del r6).set r (.obj (.deferred (some []))):=⟨_,rfl⟩
 have b5:Hb r5=none:=by rw [hHb,Zpg _ _ e5.1,Zpz _ d56,AH.del_same]
 have b6:Hb r6=none:=by rw [hHb,Zpg _ _ e6.1,AH.del_same]
 have bl:Hb l0=none:=by rw [hHb,Zpg _ _ hne,Zpz _ f6.2,Zpz _ f5.2]; exact hl0
 refine allRun (p:=p) (Mut:=fun x=>x=l0∨x=r5∨x=r6) (Inv:=fun k B=>SubH Hb B∧B l0=some (.loop .ready none fn 76 t #[12] ca cb r)∧B r5=some (.cells 3 [iV k] 0)∧B r6=some (.cells 3 [iV (dpL ((p.all 0).take k))] 0)) (Stop:=fun _ _=>False)
  (fun k B B' h hs=>⟨h.1.trans hs,hs _ _ h.2.1,hs _ _ h.2.2.1,hs _ _ h.2.2.2⟩) (fun k B x h hm=>?_) hp ?_ (fun _ _ _=>rfl) rfl rfl (s0:=0) ?_ ?_ ?_ (fun _ _ _ h=>h.elim)
 ·rcases hm with rfl | rfl | rfl
  ·rw [h.2.1]; simp
  ·rw [h.2.2.1]; simp
  ·rw [h.2.2.2]; simp
 ·rintro k hk B ⟨hB,hBl,h5,h6⟩ K' hk1 hk2;have qr:B r=some (.obj (.deferred (some []))):=hB _ _ (by rw [hHb]; exact Zpc _ _ _);refine Zad (l:=l0) (pe:=none) (fn:=fn) (N:=76) (t:=t) (ps:=#[12]) («asg»:=ca) (bd:=cb) (ds:=r) hBl rfl (by simp) hfn ?_;refine ZdD hca ?_
  (repeat' (first | (simp only [↓ZF,ZG,ptrV,Zo5,Zo7,Zpd,setAt,Zat,ZjN,ZfI, *]) | (refine Ya rfl (fun _ _ _ h=>h) ?_) | (refine ZH fun zr zh=>?_; have zg:=zh; (try simp only [Zpb] at zg); (try have zn_h5:=Zo6 h5 zh); (try have zn_h5:=Zo6 h5 zg.2); (try have zn_h5:=Zo6 h5 zg.2.2); (try have zn_h6:=Zo6 h6 zh); (try have zn_h6:=Zo6 h6 zg.2); (try have zn_h6:=Zo6 h6 zg.2.2); (try have zn_qr:=Zo6 qr zh); (try have zn_qr:=Zo6 qr zg.2); (try have zn_qr:=Zo6 qr zg.2.2); (try have zn_hBl:=Zo6 hBl zh); (try have zn_hBl:=Zo6 hBl zg.2); (try have zn_hBl:=Zo6 hBl zg.2.2)) | (with_reducible refine And.intro ?_ ?_)))
  ·exact ⟨none,rfl⟩
  ·intro pe;refine ZdD hcb (Zl3 ?_);have dl5:=f5;have z5:=Zo6 h5 zh;have z6:=Zo6 h6 zh;have zl:=Zo6 hBl zh;obtain ⟨B2,hB2⟩:∃ B2,B2=(B.set zr (.cells 207 [bV (p.all 0)[k].fst.con,sV (p.all 0)[k].fst.name,encS paE (p.all 0)[k].fst.kids,iV (p.all 0)[k].snd] 0)).set l0 (.loop .busy pe fn 76 t #[12] ca cb r):=⟨_,rfl⟩
   have c5:B2 r5=some (.cells 3 [iV k] 0):=by rw [hB2]; exact (by simp only [Zpf, *,if_false]<;>rfl)
   have c6:B2 r6=some (.cells 3 [iV (dpL ((p.all 0).take k))] 0):=by rw [hB2]; exact (by simp only [Zpf, *,if_false]<;>rfl)
   have c7:B2 zr=some (.cells 207 [bV (p.all 0)[k].fst.con,sV (p.all 0)[k].fst.name,encS paE (p.all 0)[k].fst.kids,iV (p.all 0)[k].snd] 0):=by rw [hB2]; exact (by simp only [Zpf, *,if_true,if_false]<;>rfl)
   have cl:B2 l0=some (.loop .busy pe fn 76 t #[12] ca cb r):=by rw [hB2]; exact Zpc _ _ _
   have d6:(B2.del r5) r6=some (.cells 3 [iV (dpL ((p.all 0).take k))] 0):=by rw [Zpz _ (Ne.symm d56)]; exact c6
   have d7:(B2.del r5) zr=some (.cells 207 [bV (p.all 0)[k].fst.con,sV (p.all 0)[k].fst.name,encS paE (p.all 0)[k].fst.kids,iV (p.all 0)[k].snd] 0):=by rw [Zpz _ z5.2]; exact c7
   rw [← hB2];replace hB2:=Zo8 hB2
   obtain ⟨Hi,i0,i1,i2,i3,i4,i5,i6,i7,i8,hsub,hkeep⟩:∃ Hi:Nat→AH,Hi 0=B2∧Hi 1=B2∧Hi 2=B2.del r5∧Hi 3=B2.del r5∧Hi 4=B2.del r5∧Hi 5=B2.del r5∧Hi 6=B2.del r5∧Hi 7=B2.del r5∧Hi 8=B2.del r5∧(∀ k,SubH (Hi k) B2)∧∀ k∈[2,3,4,5,6,7,8],∀ b,SubH (Hi k) (B2.set r5 b) :=
    ⟨fun i=>if i<2 then B2 else B2.del r5,rfl,rfl,rfl,rfl,rfl,rfl,rfl,rfl,rfl,fun k=>by
      show SubH (if k<2 then B2 else B2.del r5) B2;split
      ·exact Zpa _
      ·intro i b hb; rw [AH.del_get] at hb; split at hb; cases hb; exact hb,fun k hk b=>by
      show SubH (if k<2 then B2 else B2.del r5) _;rw [if_neg (by simp at hk; omega)];intro i b' hb; rw [AH.del_get] at hb; split at hb; cases hb;rw [Zpg _ _ (by assumption)]; exact hb⟩
   refine ZfM mixed (fun _ _ _ _ e h=>⟨e.trans h.1,h.2⟩) Hi hsub ?_;have har:=p.all_around 0 _ (Zpk hk);have hdp:dpL ((p.all 0).take (k+1))=max (dpL ((p.all 0).take k)) ((p.all 0)[k].2+1):=by rw [YM hk,dpL_snoc]
   have hkl:=p.all_len 0;replace hdp:=Zo8 hdp;generalize (p.all 0)[k]=x at *
   have w1:IntKind.i64.wrap ((k:Int)+1)=((k+1:Nat):Int):=by rw [ZO (by omega) (by omega)]; simp
   have w2:IntKind.i64.wrap (x.snd+1)=x.snd+1:=ZO (by omega) (by omega);have d65:¬ r6=r5:=Ne.symm d56;clear hkl
   (repeat' (first | (simp only [↓ZF,ZG,ptrV,Zo5,Zo7,setAt,Zo9,vcMax,forall_const,p2_fin,p2_pl2K,p2_tkN,p2_oneN,p2_one2K,Zoa,Yg,Zc5, *]) | (with_reducible refine And.intro ?_ ?_)))
   ·exact fun k hk=>hkeep k hk _
   ·have hfin:∀ (v:Int) i b,¬ (i=l0∨i=r5∨i=r6)→B i=some b→(((B2.set r5 (.cells 3 [iV ((k+1:Nat):Int)] 0)).set r6 (.cells 3 [iV v] 0)).set l0 (.loop .ready none fn 76 t #[12] ca cb r)) i=some b:=fun v i b hm hb=>by
     have m1:i ≠ l0:=fun h=>hm (.inl h)
     have m2:i ≠ r5:=fun h=>hm (.inr (.inl h))
     have m3:i ≠ r6:=fun h=>hm (.inr (.inr h))
     rw [Zpg _ _ m1,Zpg _ _ m3,Zpg _ _ m2,hB2.out,Zpg _ _ m1,Zpg _ _ (Zo6 hb zh).1];exact hb
    have hmx:(if x.snd+1 > dpL ((p.all 0).take k) then x.snd+1 else dpL ((p.all 0).take k))=dpL ((p.all 0).take (k+1)):=by rw [hdp.out]; split<;>omega
    rw [hmx];refine ⟨⟨pe,(by simp only [Zpf, *,if_false]<;>rfl)⟩,hk1 _ ⟨fun i b hb=>hfin _ i b (fun h=>?_) (hB i b hb),Zpc _ _ _,(by simp only [Zpf, *,if_true,if_false]<;>rfl),(by simp only [Zpf, *,if_true,if_false]<;>rfl)⟩ (fun i b hm hb=>hfin _ i b hm hb)⟩
    ·rcases h with rfl | rfl | rfl
     ·rw [bl] at hb; cases hb
     ·rw [b5] at hb; cases hb
     ·rw [b6] at hb; cases hb
 ·have eb:=Zo6 xb hr;have fb:=Zo6 xb hl0;rw [Zpg _ _ fb.1,Zpg _ _ eb.1]; exact xb
 ·refine ⟨fun i b hb=>?_,Zpc _ _ _,?_,?_⟩
  ·have i1:i ≠ l0:=fun h=>by rw [h,bl] at hb; cases hb
   rw [Zpg _ _ i1];by_cases ir:i=r
   ·subst ir; rw [hHb,Zpc] at hb; rw [Zpc]; exact hb
   ·rw [Zpg _ _ ir];rw [hHb,Zpg _ _ ir,AH.del_get] at hb;split at hb
    ·cases hb
    ·rw [AH.del_get] at hb;split at hb
     ·cases hb
     ·exact hb
  ·rw [Zpg _ _ f5.1,Zpg _ _ e5.1]; exact x5
  ·rw [Zpg _ _ f6.1,Zpg _ _ e6.1]; exact x6
 ·rintro B u ⟨hB,hBl,h5,h6⟩;refine ⟨.ready,none,hBl,by simp,?_⟩;rw [← p.all_len 0,ZpD (Zpl _)] at h6
  have hsB:∀ i b,H0 i=some b→(B.del l0) i=some b:=fun i b h=>by
   have hx:=xs _ _ h;have i1:i ≠ l0:=fun e=>by rw [e,hl0] at hx; cases hx
   have i2:i ≠ r:=fun e=>by rw [e,hr] at hx; cases hx
   have i3:i ≠ r5:=fun e=>by rw [e,g5] at h; cases h
   have i4:i ≠ r6:=fun e=>by rw [e,g6] at h; cases h
   rw [Zpz _ i1];refine hB _ _ ?_;rw [hHb,Zpg _ _ i2,Zpz _ i4,Zpz _ i3];exact hx
  have hsX:∀ i b,i ≠ r5→i ≠ r6→Hx i=some b→(B.del l0) i=some b:=fun i b i3 i4 hx=>by
   have i1:i ≠ l0:=fun e=>by rw [e,hl0] at hx; cases hx
   have i2:i ≠ r:=fun e=>by rw [e,hr] at hx; cases hx
   rw [Zpz _ i1];refine hB _ _ ?_;rw [hHb,Zpg _ _ i2,Zpz _ i4,Zpz _ i3];exact hx
  have q5:(B.del l0) r5=some (.cells 3 [iV p.sz] 0):=by rw [Zpz _ f5.1]; exact h5
  have q6:(B.del l0) r6=some (.cells 3 [iV (dpL (p.all 0))] 0):=by rw [Zpz _ f6.1]; exact h6
  have qr:(B.del l0) r=some (.obj (.deferred (some []))):=by rw [Zpz _ (Ne.symm hne)]; exact hB _ _ (by rw [hHb]; exact Zpc _ _ _)
  clear h5 h6 hBl;show ACx _ ZoX _ _ _;have y2:∀ r2 e v,Hx r2=some (.cells e v 0)→¬ e=3→r2 ≠ r5∧r2 ≠ r6:=fun r2 e v h he=>⟨fun e'=>by rw [e',x5] at h; simp only [Option.some.injEq,Blk.cells.injEq] at h; exact he h.1.symm,fun e'=>by rw [e',x6] at h; simp only [Option.some.injEq,Blk.cells.injEq] at h; exact he h.1.symm⟩
  exact pcheck2 hp hl hnm hR.out hsB (hsX _ _ (y2 _ _ _ x2 (by decide)).1 (y2 _ _ _ x2 (by decide)).2 x2) (hsX _ _ (y2 _ _ _ x3 (by decide)).1 (y2 _ _ _ x3 (by decide)).2 x3) (hsX _ _ (y2 _ _ _ x4 (by decide)).1 (y2 _ _ _ x4 (by decide)).2 x4) q5 q6 qr g4 (xs.none hr) t2 t3 t4 t5 t6
end Go.PV.Ytglpmlbbaedbiaa
end
section
set_option maxRecDepth 20000
set_option maxHeartbeats 4000000
namespace Go.PV.Ytglpmlbbaedbiaa
open Go Go.Proofs
def hasF (l:List ByteArray) (s:ByteArray):Bool:=l.any fun x=>decide (x=s)
theorem Zfc {l:List ByteArray} {s:ByteArray}:hasF l s=true↔s∈l:=by simp [hasF]
end Go.PV.Ytglpmlbbaedbiaa
end
section
open Go.PV.AH renaming set_none→Zpb
open Go.PV.Hold renaming mk→Zo8
open Go.PV.PureF renaming forget→ZpF,use→Zpe
open Go.PV.SubH renaming new→Zph,of_set→Zpi,refl→Zpa
open Int renaming reduceNeg→Zp1,reduceEq→ZpE
open List renaming getElem_mem→Zpk,drop→Zo9,drop_eq_nil_of_le→ZpC
open Nat renaming reduceEqDiff→Zo5,reduceLT→Zo7,reduceAdd→Zpd,lt_or_ge→ZpJ
open Option renaming bind_some→ZpH,map_some→Zps
set_option maxRecDepth 20000
set_option maxHeartbeats 4000000
namespace Go.PV.Ytglpmlbbaedbiaa
open Go Go.Proofs
theorem csize_ok (e:Ex):e.sz≤1152921504606846976→PureF Try.prog 98 [exV e] (.tuple [iV e.sz,iV e.dp]):=by
 refine Ex.ind (p:=fun e=>e.sz≤1152921504606846976→PureF Try.prog 98 [exV e] (.tuple [iV e.sz,iV e.dp])) (fun e ih hs=>?_) e;have hz:=e.sz_eq;have hl:=YL e.kids;have ih':∀ i (h:i<e.kids.length),PureF Try.prog 98 [exV e.kids[i]] (.tuple [iV e.kids[i].sz,iV e.kids[i].dp]):=fun i h=>ih _ (Zpk h) (by have:=ZX (Zpk h); omega)
 clear ih;refine ZpF fun H=>?_
 refine ZK fd98 (by simp) ?_;delta c98 Zj Zf Zd Zb Ze Zq;obtain ⟨N,D,hN,hD,hNs,hlN⟩:∃ N D,e.sz=N∧e.dp=D∧N≤1152921504606846976∧e.kids.length≤N:=⟨_,_,rfl,rfl,hs,by omega⟩
 have hDN:D≤N:=by have:=e.dp_le; omega
 have h0:1+exsSz e.kids=N:=by omega
 have h1:exsDp e.kids+1=D:=by rw [← hD,e.dp_eq]
 rw [hN,hD];clear hs hl hz hN hD
 (repeat' (first | (simp only [↓ZF,ZG,ptrV,intV,Zo5,Zo7,reduceCtorEq,ZJ,Zo9,undef,ZW,Yk,ZZ, *]) | (refine ZH fun zr zh=>?_; have zg:=zh; (try simp only [Zpb] at zg))))
 refine ZY (fun _ _ _ h=>h) (fun A H'=>SubH H H'∧A.d=[]∧A.t 9=exsV e.kids∧A.t 10=iV e.kids.length∧∃ (i n d:Nat),i≤e.kids.length∧A.t 11=iV i∧A.t 2=iV n∧A.t 3=iV d∧n+exsSz (e.kids.drop i)=N∧max d (exsDp (e.kids.drop i))+1=D)
  (fun A _=>match A.t 11 with | .lit (.int _ i)=>((e.kids.length:Int)-i).toNat | _=>0) ?_ ?_
 ·exact ⟨Zph zh,rfl,rfl,rfl,0,1,0,by omega,rfl,rfl,rfl,h0,by simpa using h1⟩
 ·clear h0 h1;rintro ⟨t,d⟩ H' ⟨hs',rfl,h9,h10,i,n,d,hi,h6,h4,h5,hn,hdd⟩;dsimp only at h9 h10 h4 h5 h6;delta b98_1 Zn Zr Zk Zb Zi Zg Zo Za Zh Zc Zq Zm
  (repeat' (first | (simp only [↓ZF,ZG,ZP,ptrV,Zo5,Zo7,Zpd,setAt,Zo9,vcMax,WL,Ye,YE,Yc,ZZ,en_98, *]) | (refine Yf ?_ ?_<;>intro) | (refine Ya rfl (fun _ _ _ h=>h) ?_) | (refine ZH fun zr zh=>?_; have zg:=zh; (try simp only [Zpb] at zg)) | (refine Zpi ?_ ?_) | (exact SubH.none (by assumption) (by assumption)) | (refine Zpe (ih' _ (by assumption)) ?_) | (with_reducible refine And.intro ?_ ?_)))
  ·rename_i hlt;have e1:=Zed hlt;rw [ZO (n:=(i:Int)+1) (by omega) (by omega),ZO (n:=(n:Int)+(e.kids[i].sz:Int)) (by omega) (by omega)];exact ⟨i+1,n+e.kids[i].sz,max d e.kids[i].dp,by omega,rfl,by simp,by simp; split<;>omega,by omega,by rw [Zee hlt] at hdd; omega⟩
  ·rename_i hlt;rw [ZO (n:=(i:Int)+1) (by omega) (by omega)];omega
  ·rename_i hlt;rw [ZpC (by omega)] at hn hdd;delta c98_1 Za Zm Zc;have hn':N=n:=by simpa [exsSz] using hn.symm
   have hd':D=d+1:=by simpa [exsDp] using hdd.symm
   subst hn'; subst hd'
   (repeat' (first | (simp only [↓ZF,ZG,Zo5,Zo7, *])))
   rw [ZO (n:=(d:Int)+1) (by omega) (by omega)];exact YD rfl (by simp only [resV,Xi,Xh,ZI,Zo5,if_true,if_false,ZpH,Zps,tupV, *]<;>rfl) ⟨rfl,hs'⟩
theorem Zol (l:List ByteArray) (s:ByteArray) (hl:l.length≤1099511627776):PureF Try.prog 101 [strsV l,sV s] (iV (idxF (fun x=>decide (s=x)) l)):=by
 refine ZpF fun H=>?_
 refine ZK fd101 (by simp) ?_;delta c101 Zf Za Ze Zq
 (repeat' (first | (simp only [↓ZF,ZG,intV,Zo5,Zo7,reduceCtorEq,ZJ,undef,Jp, *])))
 refine ZY (fun _ _ _ h=>h) (fun A H'=>H'=H∧A.d=[]∧A.t 0=strsV l∧A.t 1=sV s∧A.t 7=iV l.length∧∃ i:Nat,i≤l.length∧A.t 8=iV i∧∀ j (h:j<l.length),j<i→decide (s=l[j])=false)
  (fun A _=>match A.t 8 with | .lit (.int _ i)=>((l.length:Int)-i).toNat | _=>0) ?_ ?_
 ·exact ⟨rfl,rfl,rfl,rfl,rfl,0,by simp,rfl,by simp⟩
 ·rintro ⟨t,d⟩ H' ⟨rfl,rfl,h0,h1,h7,i,hi,h8,hj⟩;dsimp only at h0 h1 h7 h8;replace hj:=Zo8 hj;delta b101_1 Zn Zr Za Zc Zk Zb Zm;by_cases hlt:i<l.length
  ·have hil:(i:Int)<(l.length:Int):=by omega
   have hdi:=Ze8 hlt
   (repeat' (first | (simp only [↓ZF,ZG,↓ZaP,Zo5,Zo7,reduceCtorEq,Ym,Jp, *]) | (refine Yf ?_ ?_<;>intro) | (refine ZM ?_) | (exact Zpa _) | (with_reducible refine And.intro ?_ ?_)))
   ·have hs:s=l[i]:=by assumption
    rw [JT (p:=fun x=>decide (l[i]=x)) hlt (decide_eq_true rfl) (fun j h=>by have:=hj.out j (by omega) h; rw [hs] at this; exact this)]
   ·rw [ZO (by omega) (by omega)];refine ⟨i+1,by omega,by simp,fun j h h'=>?_⟩;rcases ZpJ j i with h2 | h2
    ·exact hj.out j h h2
    ·obtain rfl:j=i:=by omega
     exact decide_eq_false (by assumption)
   ·rw [ZO (by omega) (by omega)];omega
  ·have hil:¬ (i:Int)<(l.length:Int):=by omega
   have hno:idxF (fun x=>decide (s=x)) l = -1:=ZaO fun j h=>hj.out j h (by omega)
   (repeat' (first | (simp only [↓ZF,ZG,Zo7,Zp1, *]) | (refine Ya rfl (fun _ _ _ h=>h) ?_)))
   delta c101_1 Zq
   (repeat' (first | (simp only [↓ZF,ZG,Zo5,Zo7,Zp1, *]) | (refine ZM ?_) | (exact Zpa _)))
theorem Zi0 (l:List ByteArray) (s:ByteArray) (hl:l.length≤1099511627776):PureF Try.prog 82 [strsV l,sV s] (boolV (hasF l s)):=by
 have hi:=Zol l s hl
 have e:decide (0≤idxF (fun x=>decide (s=x)) l)=hasF l s:=by
  rw [ZhH,hasF]
  congr 1
  funext x
  exact decide_eq_decide.2 ⟨Eq.symm,Eq.symm⟩
 rw [← e];refine ZpF fun H=>?_
 refine ZK fd82 (by simp) ?_;delta c82 Zq Za Zo Zr Zm Zc;clear e
 (repeat' (first | (simp only [↓ZF,ZG,boolV,Zo5,Zo7,reduceCtorEq,ZJ,undef,en_101, *]) | (refine ZM ?_) | (exact Zpa _) | (refine Zpe (hi) ?_)))
def misF (e:Ex):Bool :=
 if e.op=1∨e.op=2 then decide (0<(e.kids.length:Int)) || !nameB e.name
 else if e.op=3 then !nameB e.name
 else if e.op=4 then decide ((e.kids.length:Int)<2) || !decide (e.name={ data:=#[] })
 else if e.op=5 then !decide ((e.kids.length:Int)=1) || !nameB e.name
 else true
theorem Zju (e:Ex) (hn:e.name.size≤1099511627776):PureF Try.prog 109 [exV e] (boolV (misF e)):=by
 have hc:=Zdd e.name hn;refine ZpF fun H=>?_
 refine ZK fd109 (by simp) ?_;delta c109 Zj Zq Zd Zb Ze Zc Zm Zr Za Zp Zo;unfold misF;generalize nameB e.name=nb at *
 (repeat' (first | (simp only [↓ZF,ZG,↓XZ,ptrV,intV,boolV,Zo5,Zo7,Bool.true_or,Bool.false_or,reduceCtorEq,Yb,ZJ,Zo9,undef,ZpE,ZW,ZT,Yd,Yk,Yg,Ym,ZZ,Ze2, *]) | (refine Xu ?_ ?_<;>intro) | (refine Yf ?_ ?_<;>intro) | (refine Zdy ?_ ?_<;>intro) | (refine ZM ?_) | (refine ZH fun zr zh=>?_; have zg:=zh; (try simp only [Zpb] at zg)) | (exact Zpa _) | (refine Zpi ?_ ?_) | (refine Zpe (hc) ?_) | (with_reducible refine And.intro ?_ ?_)))
 all_goals (clear hc; simp [*])
end Go.PV.Ytglpmlbbaedbiaa
end
section
open Go.PV.AH renaming set_none→Zpb,ne_of→Zo6,set_ne→Zpg,set_same→Zpc
open Go.PV.Hold renaming mk→Zo8
open Go.PV.SubH renaming new→Zph,refl→Zpa
open List renaming length_drop→Zp7,length_append→Zpy,drop_eq_getElem_cons→ZpI,drop→Zo9,getElem_mem→Zpk,take_of_length_le→ZpD
open Nat renaming reduceEqDiff→Zo5,reduceLT→Zo7,reduceAdd→Zpd,reduceLeDiff→Zpo,le_refl→Zpl,lt_succ_self→Zp8,zero_add→Zpu
set_option maxRecDepth 20000
set_option maxHeartbeats 4000000
namespace Go.PV.Ytglpmlbbaedbiaa
open Go Go.Proofs
section
variable {y:VV} {ry rw sp sp':Nat} {L:List Pl} {Inv:Nat→AH→AH→Prop} {Stop:Nat→AH→Prop}
theorem walk2 (hsub:∀ k Hb B,Inv k Hb B→SubH Hb B) (hal:∀ k Hb B z b,Inv k Hb B→B z=none→Inv k (Hb.set z b) (B.set z b))
 (hy:∀ k (h:k<L.length) Hb B,Inv k Hb B→∀ K':VE→AH→Prop,(∀ B',Inv (k+1) Hb B'→K' (.ret (boolV true)) B')→(∀ B',Stop k B'→K' (.ret (boolV false)) B')→ACall Try.prog none y [plV L[k]] B K')
 (hyl:∀ B xs K',XX Try.prog none y xs B K'=ACall Try.prog none y xs B K') :
 ∀ (n:Nat) (p:Pa) (a:Int) (k:Nat) (M:List Pl) (Hb B:AH) (K:VE→AH→Prop),p.sz<n→L.drop k=p.all a++M→p.sz≤1099511627776→0≤a→a+p.sz≤2199023255552→Inv k Hb B →
 Hb ry=some (.cells 211 [y] sp)→Hb rw=some (.cells 212 [.func (.func 112) [] [ptrV ry 0,ptrV rw 0]] sp') →
 (∀ Hb' B',Inv (k+p.sz) Hb' B'→SubH Hb Hb'→K (.ret (boolV true)) B')→(∀ j B',Stop j B'→K (.ret (boolV false)) B')→ZU Try.prog 112 [paV p,iV a,ptrV ry 0,ptrV rw 0] B K:=by
 intro n
 induction n with
 | zero=>intro p a k M Hb B K h; omega
 | succ n ih =>
   intro p a k M Hb B K h0 hL hs ha0 ha hI by0 bw0 hT hF;have hsI:=hsub _ _ _ hI;have by_:=hsI _ _ by0;have bw:=hsI _ _ bw0;refine ZK fd112 (by simp) ?_;delta c112 Zj Zq Zb Zr Za Zp Zc
   have hk:k<L.length:=by
    have:=congrArg List.length hL
    rw [Zp7,Zpy,p.all_len] at this
    have:=p.sz_pos
    omega
   have hLk:L[k]=(p,a):=by
    rw [ZpI hk,p.all_eq] at hL;exact (List.cons.inj hL).1
   have hyk:=hy k hk;rw [hLk] at hyk;clear hLk hk;replace hT:=Zo8 hT;replace hF:=Zo8 hF;replace hL:=Zo8 hL
   (repeat' (first | (simp only [↓ZF,ZG,ptrV,Zo5,Zo7,Zpd,Zpo,ZJ,ZQ,fillV,setAt,Zo9,undef,ZQ,Znm,XB,Yg,Znn, *]) | (refine ZH fun zr zh=>?_; have zg:=zh; (try simp only [Zpb] at zg); (try have zn_by_:=Zo6 by_ zh); (try have zn_by_:=Zo6 by_ zg.2); (try have zn_by_:=Zo6 by_ zg.2.2); (try have zn_bw:=Zo6 bw zh); (try have zn_bw:=Zo6 bw zg.2); (try have zn_bw:=Zo6 bw zg.2.2))))
   rename_i r4 n4 n4' zz1 zz2;have hI1:=hal _ _ _ zr (.cells 3 [iV a] 0) (hal _ _ _ r4 (.cells 57 [bV p.con,sV p.name,encS paE p.kids] 0) hI n4) zh;have hb4:Hb r4=none:=hsI.none n4;have hb5:Hb zr=none:=hsI.none zg.2;have d45:¬ r4=zr:=zg.1.2;obtain ⟨Hc,hHc⟩:∃ Hc,Hc=(Hb.set r4 (.cells 57 [bV p.con,sV p.name,encS paE p.kids] 0)).set zr (.cells 3 [iV a] 0):=⟨_,rfl⟩
   have hbc:SubH Hb Hc:=by rw [hHc]; exact (Zph hb4).of_set hb5
   have x4:Hc r4=some (.cells 57 [bV p.con,sV p.name,encS paE p.kids] 0):=by rw [hHc,Zpg _ _ d45]; exact Zpc _ _ _
   have x5:Hc zr=some (.cells 3 [iV a] 0):=by rw [hHc]; exact Zpc _ _ _
   have xy:=hbc _ _ by0;have xw:=hbc _ _ bw0;rw [← hHc] at hI1;show ACall Try.prog none y _ ((B.set r4 (.cells 57 [bV p.con,sV p.name,encS paE p.kids] 0)).set zr (.cells 3 [iV a] 0)) _;generalize (B.set r4 (.cells 57 [bV p.con,sV p.name,encS paE p.kids] 0)).set zr (.cells 3 [iV a] 0)=B1 at *
   refine hyk Hc B1 hI1 _ (fun B' hB=>?_) (fun B' hB=>?_)
   ·have hsB:=hsub _ _ _ hB;have q4:=hsB _ _ x4;have q5:=hsB _ _ x5;have qy:=hsB _ _ xy;have qw:=hsB _ _ xw
    have hw:∀ (K':VE→AH→Prop),(∀ Hd B'',Inv (k+p.sz) Hd B''→SubH Hc Hd→K' (.ret (boolV false)) B'')→(∀ j B'',Stop j B''→K' (.ret (boolV true)) B'')→ZU Try.prog 113 [pasV p.kids,.func (.func 114) [] [ptrV rw 0,ptrV zr 0]] B' K':=fun K' k1 k2=>by
     have hpz:=p.sz_eq;have hpl:=XG p.kids;refine hasPaS (J:=fun i C=>∃ Hd,Inv (k+1+pasSz (p.kids.take i)) Hd C∧SubH Hc Hd) (St:=fun C=>∃ j,Stop j C) (by omega) ⟨Hc,by simpa [pasSz] using hB,Zpa _⟩ (fun i h C hC K'' h1 h2=>⟨ZmN,?_⟩) (fun C hC=>?_) (fun C hC=>hC.elim fun j hj=>k2 j C hj)
     ·obtain ⟨Hd,hC1,hC2⟩:=hC;have hsC:=hsub _ _ _ hC1;have c5:=hsC _ _ (hC2 _ _ x5);have cw:=hsC _ _ (hC2 _ _ xw);have hik:=ih p.kids[i] (a+1) (k+1+pasSz (p.kids.take i)) (XH (p.kids.drop (i+1)) (a+1)++M);have hdk:=ZiW hL.out h;have hks:=Xd (Zpk h);have hkd:=ZiX h;refine ZK fd114 (by simp) ?_;delta c114 Zj Zq Zb Zm Zr Zc;have hwa:IntKind.i64.wrap (a+1)=a+1:=ZO (by omega) (by omega);replace hdk:=Zo8 hdk;replace hkd:=Zo8 hkd;replace h1:=Zo8 h1;replace h2:=Zo8 h2;clear hT hF k1 k2 hL hyk
      (repeat' (first | (simp only [↓ZF,ZG,ptrV,Zo5,Zo7,ZJ,Zo9,undef,ZgO,XB,Yg, *]) | (refine ZH fun zr zh=>?_; have zg:=zh; (try simp only [Zpb] at zg); (try have zn_c5:=Zo6 c5 zh); (try have zn_c5:=Zo6 c5 zg.2); (try have zn_c5:=Zo6 c5 zg.2.2); (try have zn_cw:=Zo6 cw zh); (try have zn_cw:=Zo6 cw zg.2); (try have zn_cw:=Zo6 cw zg.2.2)) | (with_reducible refine And.intro ?_ ?_)))
      ·exact Zil
      ·have hIC:=hal _ _ _ zr (.cells 57 [bV p.kids[i].con,sV p.kids[i].name,encS paE p.kids[i].kids] 0) hC1 zh;have hsd:SubH Hd (Hd.set zr (.cells 57 [bV p.kids[i].con,sV p.kids[i].name,encS paE p.kids[i].kids] 0)):=Zph (hsC.none zh);refine hik _ _ _ (by omega) hdk.out (by omega) (by omega) (by omega) hIC (hsd _ _ (hC2 _ _ xy)) (hsd _ _ (hC2 _ _ xw)) (fun Hd2 B2 hB2 hk2=>?_) (fun j B2 hB2=>?_)
       ·(repeat' (first | (simp only [↓ZF,ZG,boolV,Zo5,Zo7, *]) | (refine ZM ?_)))
        refine h1.out _ ⟨Hd2,?_,hC2.trans (hsd.trans hk2)⟩;rw [hkd.out,← Nat.add_assoc];exact hB2
       ·(repeat' (first | (simp only [↓ZF,ZG,boolV,Zo5,Zo7, *]) | (refine ZM ?_)))
        exact h2.out _ ⟨j,hB2⟩
     ·obtain ⟨Hd,hC1,hC2⟩:=hC;rw [ZpD (Zpl _)] at hC1;refine k1 Hd C ?_ hC2;rw [hpz,show k+(1+pasSz p.kids)=k+1+pasSz p.kids from by omega];exact hC1
    clear hyk hL
    (repeat' (first | (simp only [↓ZF,ZG,boolV,Zo5,Zo7,Zo9,XD,Wi,Zim, *]) | (refine ZM ?_) | (refine hw _ (fun Hd B2 hB2 hk2=>?_) (fun j B2 hB2=>?_))))
    ·exact hT.out _ _ hB2 (hbc.trans hk2)
    ·exact hF.out _ _ hB2
   ·(repeat' (first | (simp only [↓ZF,ZG,boolV,Zo5,Zo7,Yb,ZJ,undef,Zim, *]) | (refine ZM ?_)))
    exact hF.out _ _ hB
theorem allRun2 {p:Pa} {rb s0:Nat} {Hb H:AH} {K:VE→AH→Prop} (hsub:∀ k Hb B,Inv k Hb B→SubH Hb B) (hal:∀ k Hb B z b,Inv k Hb B→B z=none→Inv k (Hb.set z b) (B.set z b)) (hs:p.sz≤1099511627776)
 (hy:∀ k (h:k<(p.all 0).length) Hb B,Inv k Hb B→∀ K':VE→AH→Prop,(∀ B',Inv (k+1) Hb B'→K' (.ret (boolV true)) B')→(∀ B',Stop k B'→K' (.ret (boolV false)) B')→ACall Try.prog none y [plV (p.all 0)[k]] B K')
 (hyl:∀ B xs K',XX Try.prog none y xs B K'=ACall Try.prog none y xs B K') (hone:VV.one y=true) (hyc:y.cells=[y])
 (hrb:H rb=some (.cells 57 [bV p.con,sV p.name,encS paE p.kids] s0)) (hI:Inv 0 Hb H)
 (hEnd:∀ Hb' B u,Inv p.sz Hb' B→SubH Hb Hb'→K (.ret u) B) (hStop:∀ j B u,Stop j B→K (.ret u) B):ZU Try.prog 111 [y,ptrV rb 0] H K:=by
 have hw:=fun (ry rw sp sp':Nat)=>walk2 (ry:=ry) (rw:=rw) (sp:=sp) (sp':=sp') (L:=p.all 0) hsub hal hy hyl (p.sz+1) p 0 0 []
 refine ZK fd111 (by simp) ?_;delta c111 Zj Zi Zq Zr Zg Zb;replace hEnd:=Zo8 hEnd;replace hStop:=Zo8 hStop;clear hy
 (repeat' (first | (simp only [↓ZF,ZG,ptrV,Zo5,Zo7,ZJ,setAt,Zo9,Znx,Zny,undef,ZgO,XB,Znl,ZiK,Zil, *]) | (refine ZH fun zr zh=>?_; have zg:=zh; (try simp only [Zpb] at zg); (try have zn_hrb:=Zo6 hrb zh); (try have zn_hrb:=Zo6 hrb zg.2); (try have zn_hrb:=Zo6 hrb zg.2.2))))
 rename_i ry ny ny' nq;have hI1:=hal _ _ _ zr (.cells 212 [.func (.func 112) [] [ptrV ry 0,ptrV zr 0]] 0) (hal _ _ _ ry (.cells 211 [y] 0) hI ny) zh;have hsI:=hsub _ _ _ hI;have hbc:SubH Hb ((Hb.set ry (.cells 211 [y] 0)).set zr (.cells 212 [.func (.func 112) [] [ptrV ry 0,ptrV zr 0]] 0)):=(Zph (hsI.none ny)).of_set (hsI.none zg.2);refine hw ry zr 0 0 _ _ _ (Zp8 _) (by simp) hs (by omega) (by omega) hI1 (by rw [Zpg _ _ (fun e=>zg.1.1 e.symm)]; exact Zpc _ _ _) (Zpc _ _ _) (fun Hd B hB hd=>?_) (fun j B hB=>?_)
 ·rw [Zpu] at hB
  (repeat' (first | (simp only [↓ZF,boolV, *])))
  exact ⟨rfl,_,B,_,rfl,.refl _ _,hEnd.out _ B _ hB (hbc.trans hd)⟩
 ·(repeat' (first | (simp only [↓ZF,boolV, *])))
  exact ⟨rfl,_,B,_,rfl,.refl _ _,hStop.out j B _ hB⟩
end
end Go.PV.Ytglpmlbbaedbiaa
end
section
open Bool renaming and_self→Zp3
open Go.PV.AH renaming del_ne→Zpz,set_none→Zpb,set_same→Zpc,get→Zpf,set_set→ZpA,ne_of→Zo6,set_ne→Zpg
open Go.PV.GhV renaming refl→Zpt
open Go.PV.Hold renaming mk→Zo8
open Go.PV.PureF renaming use→Zpe
open Go.PV.SubH renaming new→Zph,set→ZpG
open Int renaming toNat_natCast→ZpW
open List renaming length_append→Zpy,getElem_mem→Zpk,map_cons→Zpp,map_nil→Zpw,length_cons→Zpx,length_nil→Zp0,all_cons→ZpU,drop→Zo9,set_cons_zero→Zp5,set_cons_succ→Zp4,length_take→ZpX,append_assoc→Zqc,append_nil→Zp2,take_of_length_le→ZpD
open Nat renaming reduceEqDiff→Zo5,reduceLT→Zo7,reduceAdd→Zpd,succ_ne_self→Zpv,zero_add→Zpu,le_refl→Zpl,reduceLeDiff→Zpo
open Option renaming bind_some→ZpH,map_some→Zps
set_option maxRecDepth 20000
set_option maxHeartbeats 4000000
namespace Go.PV.Ytglpmlbbaedbiaa
open Go Go.Proofs
def varsL (L:List Pl):List ByteArray:=L.filterMap fun x=>if x.1.con=true then none else some x.1.name
theorem Zma {L:List Pl} {k:Nat} (h:k<L.length):varsL (L.take (k+1))=varsL (L.take k)++(if L[k].1.con=true then [] else [L[k].1.name]):=by
 rw [YM h,varsL,List.filterMap_append]
 congr 1
 simp only [List.filterMap_cons,List.filterMap_nil]
 split<;>rename_i e<;>split at e<;>simp_all
theorem Zi1 (L:List Pl):(varsL L).length≤L.length:=List.length_filterMap_le _ _
def varsP (p:Pa):List ByteArray:=varsL (p.all 0)
def Yx (l:List Pa):List ByteArray:=l.flatMap varsP
theorem ZkK {l:List Pa} {i:Nat} (h:i<l.length):Yx (l.take (i+1))=Yx (l.take i)++varsP l[i]:=by
 rw [YM h,Yx,List.flatMap_append]; simp [Yx]
theorem Zom (p:Pa):(varsP p).length≤p.sz:=by
 have:=Zi1 (p.all 0); rw [p.all_len] at this; exact this
theorem Zce:∀ l:List Pa,(Yx l).length≤pasSz l
 | []=>by simp [Yx]
 | p::l=>by
   have:=Zce l; have:=Zom p
   rw [Yx,List.flatMap_cons,Zpy,pasSz]; unfold Yx at *; omega
theorem Zg2 {H0:AH} {v:VV} {n:Nat} {cs:List VV} {t:Nat→VV} (h2:t 2=v):∀ (rs:List Nat) (H Hb:AH),OwnX Hb H 9 1 v n cs→SubH H0 Hb→rs.Nodup→(∀ r∈rs,Hb r=some (.obj (.deferred (some [])))∧H0 r=none) →
 XM Try.prog [.tmp 2] (fun e H'=>∃ y,e=.ret y∧GhV H' y H0 (.slice false n cs)) t (rs.map WS) .returning H
 | [],H,Hb,ho,hs,_,_=>⟨v,H,v,by simp only [resV,Xi,Xh,h2,ZpH,Zps,tupV],Zpt _ _,v,rfl,GhV.back ho hs⟩
 | r::rs,H,Hb,ho,hs,hn,hr=>by
   have h1:=hr r (by simp);refine ⟨by simp,ho.sub _ _ h1.1,?_⟩
   exact Zg2 h2 rs (H.del r) (Hb.del r) (ho.del h1.1) (hs.del h1.2) (List.nodup_cons.1 hn).2 fun r' h'=>by
    have h3:=hr r' (by simp [h']);refine ⟨?_,h3.2⟩;rw [Zpz _ (fun e=>(List.nodup_cons.1 hn).1 (by rw [← e]; exact h'))];exact h3.1
def VInv (T:Nat→VV) (fn:FuncId) (ca cb:Code) (r r3 l0:Nat) (acc:List ByteArray) (L:List Pl) (k:Nat) (Hk B:AH):Prop :=
 ∃ v Hb,OwnX Hb B 9 1 v (acc++varsL (L.take k)).length (encC strE (acc++varsL (L.take k)))∧Hb r3=some (.cells 52 [v] 0)∧Hb l0=some (.loop .ready none fn 27 T #[15] ca cb r)∧SubH Hk Hb∧Hk r3=none∧Hk l0=none
theorem Zjv (l:List Pa) (hs:pasSz l≤1099511627776):PureF Try.prog 97 [pasV l] (strsV (Yx l)):=by
 have hl:=XG l;have hpz:∀ i (h:i<l.length),l[i].sz≤1099511627776:=fun i h=>by have:=Xd (Zpk h); omega
 have hvl:∀ i,(Yx (l.take i)).length≤1099511627776:=fun i=>by have:=Zce (l.take i); have:=Zef l i; omega
 have hN:l.length≤1099511627776:=by omega
 clear hl hs;refine Wl.pure fun H0=>?_
 refine Jf fd97 (by simp) ?_;delta c97 Zq Zi Za Ze
 (repeat' (first | (simp only [↓ZF,ZG,ptrV,intV,Zo5,Zo7,reduceCtorEq,ZJ,undef,zeroT_52,Xl, *]) | (refine ZH fun zr zh=>?_; have zg:=zh; (try simp only [Zpb] at zg))))
 have g3:=zh;have hI0:InB H0 (H0.set zr (.cells 52 [.lit (.slice none 0 0)] 0)) zr 52 [] [] 9 1 0 [] (.lit (.slice none 0 0)) _:=InB.start (Zpc _ _ _) (Zph zh) zh;generalize zr=r3 at *
 refine ZY (fun _ _ _ h=>h) (fun A H'=>A.t 3=ptrV r3 0∧A.t 7=pasV l∧A.t 8=iV l.length∧∃ (i:Nat) (rs:List Nat) (v:VV) (Hb:AH),i≤l.length∧A.t 9=iV i∧A.d=rs.map WS∧rs.Nodup∧(∀ r∈rs,Hb r=some (.obj (.deferred (some [])))∧H0 r=none)∧InB H0 H' r3 52 [] [] 9 1 (Yx (l.take i)).length (encC strE (Yx (l.take i))) v Hb)
  (fun A _=>match A.t 9 with | .lit (.int _ i)=>((l.length:Int)-i).toNat | _=>0) ?_ ?_
 ·exact ⟨(by simp only [ZI,Zo5,if_true,if_false, *]<;>rfl),(by simp only [ZI,Zo5,if_true,if_false, *]<;>rfl),(by simp only [ZI,Zo5,if_true,if_false, *]<;>rfl),0,[],_,_,by omega,(by simp only [ZI,Zo5,if_true,if_false, *]<;>rfl),rfl,.nil,by simp,hI0⟩
 ·clear hI0;rintro ⟨t,d⟩ H' ⟨h3,h7,h8,i,rs,v,Hb,hi,h9,rfl,hnd,hrs,hin⟩;dsimp only at h3 h7 h8 h9;delta b97_1 Zn Zr Zk Zb Zi Zg Zo Zd Zq Zl;have q3:=hin.at;by_cases hlt:i<l.length
  ·have hil:(i:Int)<(l.length:Int):=by omega
   have hdi:=WM hlt;replace hin:=Zo8 hin;replace hrs:=Zo8 hrs;replace hnd:=Zo8 hnd
   (repeat' (first | (refine ZmU _ (fun rb nb=>?_)) | (simp only [↓Wj,↓Xx,↓Xy,↓Zbm,↓Xm,↓Xc,↓YS,↓ZgP,↓XA,↓Yo,↓Ys,↓YJ,↓YG,↓WP,↓YH,↓WQ,↓YI,↓Wk,↓ZI,↓YR,↓Wu,↓Wc,↓XQ,↓Xv,↓Xk,↓YX,↓XW,ptrV,Zpp,Zpw,Zpx,Zp0,ite_true,ite_false,Zo5,Zo7,Zpd,true_and,Zpv,decide_true,Int.natCast_nonneg,ZpW,Zpf,ZpA,setAt,ZpU,List.all_nil,Zp3,eq_self,Zpu,Zo9,and_self,XY,Znv,JS,Xw,JN,Zp5,Zp4,↓XS,Xt,Zpl,Zbc,Wf,Zeb,Zbo,Wg,Zbd,XF,Zbe,Zbf,XB,Zcs,WE,Xl,Zkf, *]) | (refine ZH fun zr zh=>?_; have zg:=zh; (try simp only [Zpb] at zg); (try have zn_q3:=Zo6 q3 zh); (try have zn_q3:=Zo6 q3 zg.2); (try have zn_q3:=Zo6 q3 zg.2.2))))
   simp only [Zpb] at nb;have hin1:=((hin.out.alloc zh (.cells 57 [bV l[i].con,sV l[i].name,encS paE l[i].kids] 0)).alloc (z:=rb) (by rw [Zpb]; exact nb) (.cells 57 [bV l[i].con,sV l[i].name,encS paE l[i].kids] 0))
   have hbn:=fun (x:Nat) (h:H' x=none)=>hin.out.own.sub.none h
   have hrs1:∀ r∈rs,((Hb.set zr (.cells 57 [bV l[i].con,sV l[i].name,encS paE l[i].kids] 0)).set rb (.cells 57 [bV l[i].con,sV l[i].name,encS paE l[i].kids] 0)) r=some (.obj (.deferred (some [])))∧H0 r=none:=fun r hr=>by
    have h:=hrs.out r hr;have e1:=Zo6 h.1 (hbn _ zh);have e2:=Zo6 h.1 (hbn _ nb.2);exact ⟨by rw [Zpg _ _ e2.1,Zpg _ _ e1.1]; exact h.1,h.2⟩
   refine Za2 (fun t H=>t 3=ptrV r3 0∧t 7=pasV l∧t 8=iV l.length∧t 9=iV i∧t 14=.func (.func 111) [] [ptrV rb 0]∧H rb=some (.cells 57 [bV l[i].con,sV l[i].name,encS paE l[i].kids] 0)∧∃ Hb,(∀ r∈rs,Hb r=some (.obj (.deferred (some [])))∧H0 r=none)∧InB H0 H r3 52 [] [] 9 1 (Yx (l.take i)).length (encC strE (Yx (l.take i))) v Hb)
    ⟨(by simp only [ZI,Zo5,if_false, *]<;>rfl),(by simp only [ZI,Zo5,if_false, *]<;>rfl),(by simp only [ZI,Zo5,if_false, *]<;>rfl),(by simp only [ZI,Zo5,if_false, *]<;>rfl),(by simp only [ZI,Zo5,if_true,if_false, *]<;>rfl),Zpc _ _ _,_,hrs1,hin1⟩ ?_
   clear hin1 hrs1 hbn nb hin hrs q3 h3 h7 h8 h9 hdi;have hsnoc:=ZkK hlt;have hp:=hpz i hlt;have hv1:=hvl (i+1);have hv0:=hvl i;clear hpz hvl;generalize l[i]=p at *
   rintro t Hx ⟨t3,t7,t8,t9,t14,xb,Hb,hrs,hin⟩;refine ZbE rfl (.inl t14) (by kernel_rfl) ?_;intro r l0 fn ca cb hca hcb hr hl0 hne hfn;have hbr:Hb r=none:=hin.own.sub.none hr;have hbl:Hb l0=none:=hin.own.sub.none hl0;have d3r:=Zo6 hin.blk hbr;have d3l:=Zo6 hin.blk hbl;obtain ⟨Hk,hHk⟩:∃ Hk,Hk=(Hb.del r3).set r (.obj (.deferred (some []))):=⟨_,rfl⟩
   have k3:Hk r3=none:=by rw [hHk,Zpg _ _ d3r.1,AH.del_same]
   have kl:Hk l0=none:=by rw [hHk,Zpg _ _ hne,Zpz _ d3l.2]; exact hbl
   have kr:Hk r=some (.obj (.deferred (some []))):=by rw [hHk]; exact Zpc _ _ _
   have k0:SubH H0 Hk:=by rw [hHk]; exact (hin.sub.del hin.new).of_set (hin.sub.none hbr)
   have krs:∀ r'∈rs,Hk r'=some (.obj (.deferred (some [])))∧H0 r'=none:=fun r' h'=>by
    have h:=hrs r' h';have e1:=Zo6 h.1 hbr;refine ⟨?_,h.2⟩;rw [hHk,Zpg _ _ e1.1,Zpz _ (fun e=>by rw [e,hin.blk] at h; cases h.1)];exact h.1
   have h0r:H0 r=none:=hin.sub.none hbr;have h0l:H0 l0=none:=hin.sub.none hbl;have hrn:r ∉ rs:=fun h=>by have:=(hrs r h).1; rw [hbr] at this; cases this
   refine allRun2 (p:=p) (Hb:=Hk) (Inv:=VInv t fn ca cb r r3 l0 (Yx (l.take i)) (p.all 0)) (Stop:=fun _ _=>False) (fun k Hq B h=>?_) (fun k Hq B z b h hz=>?_) hp ?_ (fun _ _ _=>rfl) rfl rfl (s0:=0) ?_ ?_ ?_ (fun _ _ _ h=>h.elim)
   ·obtain ⟨v,Hb,ho,_,_,hs,_⟩:=h;exact hs.trans ho.sub
   ·obtain ⟨v,Hb,ho,h3,hl,hs,n3,nl⟩:=h;have hbz:=ho.sub.none hz;have e3:=Zo6 h3 hbz;have el:=Zo6 hl hbz;exact ⟨v,Hb.set z b,ho.alloc hz b,by rw [Zpg _ _ e3.1]; exact h3,by rw [Zpg _ _ el.1]; exact hl,hs.set _ _,by rw [Zpg _ _ e3.1]; exact n3,by rw [Zpg _ _ el.1]; exact nl⟩
   ·rintro k hk Hq B ⟨v2,Hb2,ho,b3,bl,hsq,n3,nl⟩ K' hk1 hk2;have hBl:=ho.sub _ _ bl;have q3:=ho.sub _ _ b3;have c1:=Zlo (p.all 0)[k].1;have hvs:=Zma hk
    have hlen:((Yx (l.take i))++varsL ((p.all 0).take k)).length≤2199023255552:=by
     have h1:=Zi1 ((p.all 0).take k);have h2:((p.all 0).take k).length≤p.sz:=by rw [← p.all_len 0,ZpX]; omega
     rw [Zpy]; omega
    generalize (p.all 0)[k]=x at *
    replace ho:=Zo8 ho;replace hsq:=Zo8 hsq;replace hvs:=Zo8 hvs;refine Zad (l:=l0) (pe:=none) (fn:=fn) (N:=27) (t:=t) (ps:=#[15]) («asg»:=ca) (bd:=cb) (ds:=r) hBl rfl (by simp) hfn ?_;refine ZdD hca ?_
    (repeat' (first | (simp only [↓ZF,ZG,ptrV,Zo5,Zo7,Zpd,setAt,Zat,ZjN,ZfI, *]) | (refine Ya rfl (fun _ _ _ h=>h) ?_) | (refine ZH fun zr zh=>?_; have zg:=zh; (try simp only [Zpb] at zg); (try have zn_q3:=Zo6 q3 zh); (try have zn_q3:=Zo6 q3 zg.2); (try have zn_q3:=Zo6 q3 zg.2.2); (try have zn_hBl:=Zo6 hBl zh); (try have zn_hBl:=Zo6 hBl zg.2); (try have zn_hBl:=Zo6 hBl zg.2.2)) | (with_reducible refine And.intro ?_ ?_)))
    ·exact ⟨none,rfl⟩
    ·intro pe;refine ZdD hcb ?_;have hbz:=ho.out.sub.none zh;have el:=Zo6 bl hbz;have e3:=Zo6 b3 hbz;have blz:∀ b,(Hb2.set zr b) l0=some (.loop .ready none fn 27 t #[15] ca cb r):=fun b=>by rw [Zpg _ _ el.1]; exact bl
     have hqz:∀ b,SubH Hq (Hb2.set zr b):=fun b=>hsq.out.of_set (hsq.out.none hbz)
     (repeat' (first | (simp only [↓ZF,ZG,ptrV,boolV,Zo5,Zo7,Zpo,reduceCtorEq,fillV,setAt,Zo9,ZN,Zaa,Wb,XB,ldT_52,Ym,Jp,Zbt,Zdw, *]) | (refine Yp ?_ ?_<;>intro) | (refine Ya rfl (fun _ _ _ h=>h) ?_) | (refine Zpe (c1) ?_)))
     ·have hc:x.1.con=false:=by have h:(!x.1.con)=true:=by assumption
                                simpa using h
      have hx:=hvs.out;rw [if_neg (by simp [hc])] at hx;have hx2:Yx (l.take i)++varsL ((p.all 0).take (k+1))=(Yx (l.take i)++varsL ((p.all 0).take k))++[x.1.name]:=by rw [hx,Zqc]
      refine XJ Jp Zbt rfl (by omega) ((ho.out.alloc zh _).put (blz _) _) rfl rfl (by omega) (by omega) (fun v' H'' ho2=>?_);have e2:encC strE ((Yx (l.take i)++varsL ((p.all 0).take k))++[x.1.name])=encC strE (Yx (l.take i)++varsL ((p.all 0).take k))++[sV x.1.name]:=by rw [Yu]; rfl
      have e3':((Yx (l.take i)++varsL ((p.all 0).take k))++[x.1.name]).length=(Yx (l.take i)++varsL ((p.all 0).take k)).length+1:=by rw [Zpy]; rfl
      have b3':∀ b c,((Hb2.set zr b).set l0 c) r3=some (.cells 52 [v2] 0):=fun b c=>by rw [Zpg _ _ d3l.1,Zpg _ _ e3.1]; exact b3
      have w3:=ho2.sub _ _ (b3' _ _);have wl:=ho2.sub _ _ (Zpc _ _ _);have hc1:=ho2.cells.1;have hc2:=ho2.cells.2;rw [← e2,← e3',← hx2] at ho2;replace ho2:=Zo8 ho2;clear hx hx2 e2 e3' hvs
      (repeat' (first | (simp only [↓ZF,ZG,ptrV,Zo5,setAt,szT_52, *])))
      have wl2:(H''.set r3 (.cells 52 [v'] 0)) l0=some (.loop .busy pe fn 27 t #[15] ca cb r):=by rw [Zpg _ _ d3l.2]; exact wl
      refine ⟨⟨pe,wl2⟩,hk1 _ ⟨v',_,(ho2.out.put (b3' _ _) (.cells 52 [v'] 0)).put (by rw [Zpg _ _ d3l.2]; exact Zpc _ _ _) _,by rw [Zpg _ _ d3l.1]; exact Zpc _ _ _,Zpc _ _ _,(((hqz _).of_set nl).of_set n3).of_set nl,n3,nl⟩⟩
     ·have hc:x.1.con=true:=by have h:(!x.1.con)=false:=by assumption
                               simpa using h
      have hx:=hvs.out;rw [if_pos hc,Zp2] at hx;refine ⟨⟨pe,Zpc _ _ _⟩,hk1 _ ⟨v2,(Hb2.set zr (.cells 207 [bV x.fst.con,sV x.fst.name,encS paE x.fst.kids,iV x.snd] 0)).set l0 (.loop .ready none fn 27 t #[15] ca cb r),?_,?_,Zpc _ _ _,(hqz _).of_set nl,n3,nl⟩⟩
      ·rw [ZpA,hx];exact (ho.out.alloc zh _).put (blz _) _
      ·rw [Zpg _ _ d3l.1,Zpg _ _ e3.1]; exact b3
   ·have e1:=Zo6 xb hr;have e2:=Zo6 xb hl0;rw [Zpg _ _ e2.1,Zpg _ _ e1.1]; exact xb
   ·refine ⟨v,(Hb.set r (.obj (.deferred (some [])))).set l0 (.loop .ready none fn 27 t #[15] ca cb r),?_,?_,Zpc _ _ _,?_,k3,kl⟩
    ·simp only [List.take_zero,varsL,List.filterMap_nil,Zp2];exact (hin.own.alloc hr _).alloc (by rw [Zpg _ _ hne]; exact hl0) _
    ·rw [Zpg _ _ d3l.1,Zpg _ _ d3r.1]; exact hin.blk
    ·rw [hHk];exact (ZpG (fun i b h=>by rw [AH.del_get] at h; split at h; cases h; exact h) _ _).of_set (by rw [Zpg _ _ hne,Zpz _ d3l.2]; exact hbl)
   ·rintro Hd B u ⟨v2,Hb2,ho,b3,bl,hsq,n3,nl⟩ hd;have hBl:=ho.sub _ _ bl;refine ⟨.ready,none,hBl,by simp,?_⟩;rw [← p.all_len 0,ZpD (Zpl _)] at ho
    change OwnX Hb2 B 9 1 v2 (Yx (l.take i)++varsP p).length (encC strE (Yx (l.take i)++varsP p)) at ho
    rw [← hsnoc] at ho;have ho2:=ho.del bl;have q3:(Hb2.del l0) r3=some (.cells 52 [v2] 0):=by rw [Zpz _ d3l.1]; exact b3
    have hs2:SubH H0 (Hb2.del l0):=((k0.trans hd).trans hsq).del h0l
    have hrs2:∀ r'∈r::rs,(Hb2.del l0) r'=some (.obj (.deferred (some [])))∧H0 r'=none:=fun r' h'=>by
     have hx:Hk r'=some (.obj (.deferred (some [])))∧H0 r'=none:=by
      rcases List.mem_cons.1 h' with rfl | h'
      ·exact ⟨kr,h0r⟩
      ·exact krs r' h'
     exact ⟨by rw [Zpz _ (Zo6 hx.1 kl).1]; exact hsq _ _ (hd _ _ hx.1),hx.2⟩
    have hnd2:(r::rs).Nodup:=List.nodup_cons.2 ⟨hrn,hnd.out⟩;have hin2:InB H0 (B.del l0) r3 52 [] [] 9 1 (Yx (l.take (i+1))).length (encC strE (Yx (l.take (i+1)))) v2 (Hb2.del l0):=⟨ho2,q3,hs2,hin.new⟩
    replace hin2:=Zo8 hin2;replace hrs2:=Zo8 hrs2;replace hnd2:=Zo8 hnd2;clear ho2 q3 hs2 ho hd hsq bl b3 hBl hin hrs hnd krs;show ACx _ c97_1 _ _ _;delta c97_1 Zm Za
    (repeat' (first | (simp only [↓ZF,ZG,ptrV,Zo5,Zo7, *]) | (refine Ya rfl (fun _ _ _ h=>h) ?_) | (with_reducible refine And.intro ?_ ?_)))
    all_goals rw [ZO (n:=(i:Int)+1) (by omega) (by omega)]
    ·exact ⟨i+1,r::rs,v2,_,by omega,rfl,rfl,hnd2.out,hrs2.out,hin2.out⟩
    ·omega
  ·have hil:¬ (i:Int)<(l.length:Int):=by omega
   have hie:i=l.length:=by omega
   subst hie;rw [ZpD (Zpl _)] at hin
   (repeat' (first | (simp only [↓ZF,ZG,ptrV,Zo7, *]) | (refine Ya rfl (fun _ _ _ h=>h) ?_)))
   delta c97_2 Zb Zc
   (repeat' (first | (simp only [↓ZF,ZG,ptrV,Zo5,Zo7,Zo9,ldT_52, *])))
   exact Zg2 (by simp only [ZI,Zo5,if_true,if_false]) rs _ _ hin.own hin.sub hnd hrs
end Go.PV.Ytglpmlbbaedbiaa
end
section
open Go.PV.AH renaming set_none→Zpb,set_same→Zpc
open Go.PV.Hold renaming mk→Zo8
open Go.PV.SubH renaming refl→Zpa,of_set→Zpi,new→Zph
open List renaming drop→Zo9,take_of_length_le→ZpD
open Nat renaming reduceLT→Zo7,reduceEqDiff→Zo5,lt_succ_self→Zp8,reduceAdd→Zpd,reduceLeDiff→Zpo,le_refl→Zpl
set_option maxRecDepth 20000
set_option maxHeartbeats 4000000
namespace Go.PV.Ytglpmlbbaedbiaa
open Go Go.Proofs
abbrev nilP:VV:=.lit (.pointer none)
def ScAt (H:AH):VV→List ByteArray→Prop
 | v,[]=>v=nilP
 | v,n::l=>∃ r v',v=ptrV r 0∧H r=some (.cells 209 [sV n,v'] 0)∧ScAt H v' l
theorem ScAt.mono {H H':AH} (hs:SubH H H'):∀ {l:List ByteArray} {v:VV},ScAt H v l→ScAt H' v l
 | [],v,h=>h
 | n::l,v,⟨r,v',h1,h2,h3⟩=>⟨r,v',h1,hs _ _ h2,ScAt.mono hs h3⟩
theorem ScAt.one {H:AH}:∀ {l:List ByteArray} {v:VV},ScAt H v l→v.cells=[v]∧VV.one v=true
 | [],v,h=>by cases h; exact ⟨rfl,rfl⟩
 | n::l,v,⟨r,v',h1,h2,h3⟩=>by cases h1; exact ⟨rfl,rfl⟩
theorem ScAt.uniq {H:AH}:∀ {l m:List ByteArray} {v:VV},ScAt H v l→ScAt H v m→l=m
 | [],[],v,h,k=>rfl
 | [],n::m,v,h,⟨r,v',h1,_⟩=>by cases h; simp [ptrV,nilP] at h1
 | n::l,[],v,⟨r,v',h1,_⟩,h=>by cases h; simp [ptrV,nilP] at h1
 | n::l,n'::m,v,⟨r,v',h1,h2,h3⟩,⟨r',v'',k1,k2,k3⟩=>by
   subst h1;obtain rfl:r=r':=by simpa [ptrV] using k1
   rw [h2] at k2;simp only [Option.some.injEq,Blk.cells.injEq,List.cons.injEq,VV.lit.injEq,Value.string.injEq,and_true,true_and] at k2;obtain ⟨rfl,rfl⟩:=k2;rw [ScAt.uniq h3 k3]
open Classical in
noncomputable def scLen (H:AH) (v:VV):Nat:=if h:∃ l,ScAt H v l then h.choose.length else 0
theorem Zlq {H:AH} {v:VV} {l:List ByteArray} (h:ScAt H v l):scLen H v=l.length:=by
 have hx:∃ l,ScAt H v l:=⟨l,h⟩
 rw [scLen,dif_pos hx,ScAt.uniq hx.choose_spec h]
theorem ZnF {P:Program} {t e:TypeId} {ox:Operand} {c:Value} {a:Option Addr} {H:AH} {K:VE→AH→Prop} (hu:P.underlying t=some (.pointer e)):vcBin P .neq t ox (.const c) (.lit (.pointer a)) nilP H K=K (.ret (boolV (!a.isNone))) H:=by
 unfold vcBin;simp only [Yw];exact propext ⟨fun h=>h.2.2 _ rfl,fun h=>⟨⟨e,hu⟩,.inr (.inl rfl),fun b hb=>by rw [show b=a.isNone from hb]; exact h⟩⟩
theorem eq_ptr {P:Program} {t e:TypeId} {ox:Operand} {c:Value} {a:Option Addr} {H:AH} {K:VE→AH→Prop} (hu:P.underlying t=some (.pointer e)):vcBin P .eql t ox (.const c) (.lit (.pointer a)) nilP H K=K (.ret (boolV a.isNone)) H:=by
 unfold vcBin;simp only [Yw];exact propext ⟨fun h=>h.2.2 _ rfl,fun h=>⟨⟨e,hu⟩,.inr (.inl rfl),fun b hb=>by rw [show b=a.isNone from hb]; exact h⟩⟩
theorem eq_iptr {P:Program} {t e:TypeId} {ox:Operand} {c:Value} {cs:List VV} {H:AH} {K:VE→AH→Prop} (hu:P.underlying t=some (.pointer e)):vcBin P .eql t ox (.const c) (.iptr cs) nilP H K=K (.ret (boolV false)) H:=by
 unfold vcBin;simp only [Yw];exact propext ⟨fun h=>h.2.2 _ rfl,fun h=>⟨⟨e,hu⟩,.inr (.inl rfl),fun b hb=>by rw [show b=false from hb]; exact h⟩⟩
theorem Zi2 {ox:Operand} {c:Value} {a:Option Addr} {H:AH} {K:VE→AH→Prop}:vcBin Try.prog .neq 195 ox (.const c) (.lit (.pointer a)) nilP H K=K (.ret (boolV (!a.isNone))) H:=ZnF (e:=209) (by kernel_rfl)
theorem schas_ok (nm:List ByteArray) (s:ByteArray) {v:VV} {H:AH} (hv:ScAt H v nm):ReadF Try.prog 110 [v,sV s] (boolV (hasF nm s)) H:=by
 refine ZK fd110 (by simp) ?_;delta c110 Zq;obtain ⟨R,hR⟩:∃ R,R=hasF nm s:=⟨_,rfl⟩
 rw [← hR];replace hR:=Zo8 hR;replace hv:=Zo8 hv
 (repeat' (first | (simp only [↓ZF,ZG,boolV,Zo7,ZJ,undef, *])))
 refine ZY (fun _ _ _ h=>h) (fun A H'=>H'=H∧A.d=[]∧A.t 1=sV s∧∃ m,ScAt H (A.t 0) m∧R=hasF m s) (fun A _=>scLen H (A.t 0)) ?_ ?_
 ·exact ⟨rfl,rfl,(by simp only [ZI,Zo5,if_false, *]<;>rfl),nm,by simp only [ZI,Zo5,if_false]; exact hv.out,hR.out⟩
 ·clear hv hR;rintro ⟨t,d⟩ H' ⟨rfl,rfl,h1,m,hm,hR⟩;dsimp only at h1 hm;rw [Zlq hm];delta b110_1 Za Zq Zr Zd Zb Zn Zc;cases m with
  | nil =>
    have h0:t 0=nilP:=hm;rw [show R=false from hR];clear hR hm
    (repeat' (first | (simp only [↓ZF,ZG,boolV,Zo7,Zi2,Option.isNone_none, *]) | (refine Ya rfl (fun _ _ _ h=>h) ?_)))
    delta c110_1 Zq
    (repeat' (first | (simp only [↓ZF,ZG,Zo5,Zo7, *]) | (refine ZM ?_) | (exact Zpa _)))
  | cons n m =>
    obtain ⟨r,v',h0,hr,hm'⟩:=hm;have hl:=Zlq hm';have hR':R=(decide (n=s) || hasF m s):=hR;clear hR;replace hR':=Zo8 hR';replace hm':=Zo8 hm'
    (repeat' (first | (simp only [↓ZF,ZG,↓ZaP,vcNil,ptrV,boolV,Zo5,Zo7,reduceCtorEq,Zo9,Zi2,Option.isNone_some,Zob,Zoc,Ym,ldT_195, *]) | (refine Yf ?_ ?_<;>intro) | (refine ZM ?_) | (exact Zpa _) | (with_reducible refine And.intro ?_ ?_)))
    all_goals first
     | exact Zp8 _
     | (have hn:¬ n=s:=by assumption
        exact ⟨m,hm'.out,by rw [hR'.out]; simp [hn]⟩)
     | (have hn:n=s:=by assumption
        rw [hR'.out]; simp [hn])
theorem ZnG (ex:Bool) (l:List ByteArray) (hl:l.length≤1099511627776) {v:VV} {nm:List ByteArray} {H:AH} {K:VE→AH→Prop} (hv:ScAt H v nm) (hK:∀ v' H',SubH H H'→ScAt H' v' (l.reverse++nm)→K (.ret v') H'):ZU Try.prog 100 [v,.slice ex l.length (encC strE l)] H K:=by
 refine ZK fd100 (by simp) ?_;delta c100 Zq Za Ze;replace hv:=Zo8 hv;replace hK:=Zo8 hK
 (repeat' (first | (simp only [↓ZF,ZG,intV,Zo5,Zo7,reduceCtorEq,ZJ,undef,Jp, *])))
 refine ZY (fun _ _ _ h=>h) (fun A H'=>SubH H H'∧A.d=[]∧A.t 7=.slice ex l.length (encC strE l)∧A.t 8=iV l.length∧∃ i:Nat,i≤l.length∧A.t 9=iV i∧ScAt H' (A.t 0) ((l.take i).reverse++nm)) (fun A _=>match A.t 9 with | .lit (.int _ i)=>((l.length:Int)-i).toNat | _=>0) ?_ ?_
 ·exact ⟨Zpa _,rfl,(by simp only [ZI,Zo5,if_true,if_false, *]<;>rfl),(by simp only [ZI,Zo5,if_true,if_false, *]<;>rfl),0,by omega,(by simp only [ZI,Zo5,if_true,if_false, *]<;>rfl),by simp only [ZI,Zo5,if_false]; exact hv.out⟩
 ·clear hv;rintro ⟨t,d⟩ H' ⟨hs,rfl,h7,h8,i,hi,h9,hm⟩;dsimp only at h7 h8 h9 hm;have h1:=hm.one.1;have h2:=hm.one.2;replace hm:=Zo8 hm;delta b100_1 Zn Zr Zk Zb Zc Za Zq Zj Zm;by_cases hlt:i<l.length
  ·have hil:(i:Int)<(l.length:Int):=by omega
   have hdi:=Ze8 hlt
   (repeat' (first | (simp only [↓ZF,ZG,ptrV,Zo5,Zo7,Zpd,Zpo,reduceCtorEq,ZQ,fillV,setAt,ZQ,Ym,stT_209,Jp, *]) | (refine ZH fun zr zh=>?_; have zg:=zh; (try simp only [Zpb] at zg)) | (refine Zpi ?_ ?_) | (exact SubH.none (by assumption) (by assumption)) | (with_reducible refine And.intro ?_ ?_)))
   all_goals rw [ZO (n:=(i:Int)+1) (by omega) (by omega)]
   all_goals first
    | omega
    | exact hs.of_set (hs.none zh)
    | (refine ⟨i+1,by omega,rfl,?_⟩
       rw [YM hlt,List.reverse_append];exact ⟨_,_,rfl,Zpc _ _ _,hm.out.mono (Zph zh)⟩)
  ·have hil:¬ (i:Int)<(l.length:Int):=by omega
   have hie:i=l.length:=by omega
   subst hie;rw [ZpD (Zpl _)] at hm
   (repeat' (first | (simp only [↓ZF,ZG,Zo7, *]) | (refine Ya rfl (fun _ _ _ h=>h) ?_)))
   delta c100_1 Za Zc
   (repeat' (first | (simp only [↓ZF,ZG,Zo5,Zo7,reduceCtorEq, *]) | (refine ZM ?_)))
   exact hK.out _ _ hs hm.out
end Go.PV.Ytglpmlbbaedbiaa
end
section
open Go.PV.AH renaming set_none→Zpb,ne_of→Zo6,get→Zpf,set_same→Zpc,set_ne→Zpg
open Go.PV.Hold renaming mk→Zo8
open Go.PV.PureF renaming use→Zpe
open Go.PV.SubH renaming refl→Zpa,of_set→Zpi,new→Zph
open Int renaming reduceEq→ZpE,reduceNeg→Zp1
open List renaming drop_eq_getElem_cons→ZpI,drop→Zo9,drop_eq_nil_of_le→ZpC,getElem_mem→Zpk
open Nat renaming reduceEqDiff→Zo5,reduceLT→Zo7,reduceAdd→Zpd,reduceLeDiff→Zpo
set_option maxRecDepth 20000
set_option maxHeartbeats 4000000
namespace Go.PV.Ytglpmlbbaedbiaa
open Go Go.Proofs
mutual
def Ex.nmOk:Ex→Prop
 | .mk _ n ks=>n.size≤1099511627776∧Zfs ks
def Zfs:List Ex→Prop
 | []=>True
 | k::ks=>k.nmOk∧Zfs ks
end
theorem Zf5:∀ {ks:List Ex},Zfs ks↔∀ k∈ks,k.nmOk
 | []=>by simp [Zfs]
 | k::ks=>by rw [Zfs,Zf5]; simp
theorem Ex.nmOk_iff {e:Ex}:e.nmOk↔e.name.size≤1099511627776∧∀ k∈e.kids,k.nmOk:=by
 cases e; rw [Ex.nmOk,Zf5]; rfl
def arCo (l:List Co) (n:ByteArray):Int:=match l[(atCo l n).toNat]? with | some c=>c.arity | none=>0
def ownF (p:Pr) (e:Ex) (nm:List ByteArray):Int :=
 if misF e=true then 411 else
 if (e.op=2∧atFu p.funs e.name<0)∨(e.op=3∧atCo p.cons e.name<0) then 9 else
 if e.op=3∧¬ (e.kids.length:Int)=arCo p.cons e.name then 5 else
 if e.op=1∧hasF nm e.name=false then 411 else 0
mutual
def Ex.shF (p:Pr):Ex→List ByteArray→Int
 | .mk op n ks,nm=>if ownF p (.mk op n ks) nm=0 then shsF p ks (if op=5 then n::nm else nm) else ownF p (.mk op n ks) nm
def shsF (p:Pr):List Ex→List ByteArray→Int
 | [],_=>0
 | k::ks,nm=>if k.shF p nm=0 then shsF p ks nm else k.shF p nm
end
theorem Ex.shF_eq (p:Pr) (e:Ex) (nm:List ByteArray):e.shF p nm=if ownF p e nm=0 then shsF p e.kids (if e.op=5 then e.name::nm else nm) else ownF p e nm:=by
 cases e; rw [Ex.shF]; rfl
theorem Zon {p:Pr} {l:List Ex} {nm:List ByteArray} {i:Nat} (h:i<l.length):shsF p (l.drop i) nm=if l[i].shF p nm=0 then shsF p (l.drop (i+1)) nm else l[i].shF p nm:=by
 rw [ZpI h,shsF]
def shQ (H0:AH) (R:Int):APost:=YP Try.prog [.tmp 6] fun e H'=>e=.ret (iV R)∧SubH H0 H'
theorem Za3 {p:Pr} {ks:List Ex} {nm:List ByteArray} {t:Nat→VV} {H0 B:AH} {v:VV} {r3:Nat} {R:Int} (hN:ks.length≤1099511627776)
 (ih:∀ i (h:i<ks.length) (H:AH),ScAt H v nm→ReadF Try.prog 99 [prV p,exV ks[i],v] (iV (ks[i].shF p nm)) H) (hR:R=shsF p ks nm) (h2:t 2=v) (hv:ScAt B v nm) (h3:t 3=ptrV r3 0)
 (k3:B r3=some (.cells 80 [cosV p.cons,fusV p.funs] 0)) (h74:t 74=exsV ks) (h75:t 75=iV ks.length) (h76:t 76=iV 0) (hs:SubH H0 B) :
 ACx ⟨Try.prog,88,none⟩ (.loop b99_1) (Xf 1 (thenA (ACx ⟨Try.prog,88,none⟩ c99_1 (shQ H0 R)) (shQ H0 R))) ⟨t,[]⟩ B:=by
 refine ZY (fun _ _ _ h=>h) (fun A H'=>SubH B H'∧A.d=[]∧A.t 2=v∧A.t 3=ptrV r3 0∧A.t 74=exsV ks∧A.t 75=iV ks.length∧∃ i:Nat,i≤ks.length∧A.t 76=iV i∧R=shsF p (ks.drop i) nm)
  (fun A _=>match A.t 76 with | .lit (.int _ i)=>((ks.length:Int)-i).toNat | _=>0) ?_ ?_
 ·exact ⟨Zpa _,rfl,h2,h3,h74,h75,0,by omega,h76,hR⟩
 ·clear hR h2 h3 h74 h75 h76;rintro ⟨t,d⟩ H' ⟨hb,rfl,h2,h3,h74,h75,i,hi,h76,hR⟩;dsimp only at h2 h3 h74 h75 h76;delta b99_1 Zn Zr Zk Zb Zi Zg Za Zo Zc Zm;have q3:=hb _ _ k3;by_cases hlt:i<ks.length
  ·have hil:(i:Int)<(ks.length:Int):=by omega
   have hdi:=WL hlt;rw [Zon hlt] at hR;replace hR:=Zo8 hR;have rd:=fun H2 (h:SubH B H2)=>ih i hlt H2 (hv.mono h)
   clear ih k3
   (repeat' (first | (simp only [↓ZF,ZG,ptrV,Zo5,Zo7,Zpd,setAt,Zo9,Ye,Zbk,YE,Yc,ZZ,en_99, *]) | (refine Yp ?_ ?_<;>intro) | (refine ZM ?_) | (refine ZH fun zr zh=>?_; have zg:=zh; (try simp only [Zpb] at zg); (try have zn_q3:=Zo6 q3 zh); (try have zn_q3:=Zo6 q3 zg.2); (try have zn_q3:=Zo6 q3 zg.2.2)) | (refine Zpi ?_ ?_) | (exact SubH.none (by assumption) (by assumption)) | (refine (rd _ ?_).use ?_) | (with_reducible refine And.intro ?_ ?_)))
   all_goals try rw [ZO (n:=(i:Int)+1) (by omega) (by omega)]
   all_goals first
    | omega
    | exact hs.trans hb
    | exact hb
    | exact hb.of_set (hb.none zh)
    | exact hs.none (hb.none zh)
    | (have hne:(!decide (Ex.shF p ks[i] nm=0))=true:=by assumption
       rw [hR.out,if_neg (by simpa using hne)])
    | (have hne:(!decide (Ex.shF p ks[i] nm=0))=false:=by assumption
       exact ⟨i+1,by omega,rfl,by rw [hR.out,if_pos (by simpa using hne)]⟩)
  ·have hil:¬ (i:Int)<(ks.length:Int):=by omega
   rw [ZpC (by omega)] at hR;have hR:R=0:=hR;subst hR
   (repeat' (first | (simp only [↓ZF,ZG,ptrV,Zo7, *]) | (refine Ya rfl (fun _ _ _ h=>h) ?_)))
   delta c99_1 Zf
   (repeat' (first | (simp only [↓ZF,ZG,Zo5,Zo7, *]) | (refine ZM ?_)))
   exact hs.trans hb
theorem Zmb {p:Pr} {op ac af:Int} {name:ByteArray} {kids:List Ex} {m hb:Bool} {nm:List ByteArray} {v:VV} {H:AH} {R:Int} (hN:kids.length≤1099511627776)
 (ih:∀ (nm':List ByteArray) (v':VV) i (h:i<kids.length) (H:AH),ScAt H v' nm'→ReadF Try.prog 99 [prV p,exV kids[i],v'] (iV (kids[i].shF p nm')) H)
 (hm:PureF Try.prog 109 [.agg [iV op,sV name,encS exE kids]] (boolV m)) (hc:PureF Try.prog 79 [cosV p.cons,sV name] (iV ac)) (hf:PureF Try.prog 80 [fusV p.funs,sV name] (iV af))
 (hat:ac = -1∨∃ j:Nat,∃ h:j<p.cons.length,ac=j) (hhas:∀ H,ScAt H v nm→ReadF Try.prog 110 [v,sV name] (boolV hb) H) (hv:ScAt H v nm)
 (o:Int) (ho:o=if m=true then 411 else if (op=2∧af<0)∨(op=3∧ac<0) then 9 else if op=3∧¬ (kids.length:Int)=(match p.cons[ac.toNat]? with | some c=>c.arity | none=>0) then 5 else if op=1∧hb=false then 411 else 0)
 (hR:R=if o=0 then shsF p kids (if op=5 then name::nm else nm) else o):ReadF Try.prog 99 [prV p,.agg [iV op,sV name,encS exE kids],v] (iV R) H:=by
 have hvc:=hv.one.1;have hvo:=hv.one.2;refine ZK fd99 (by simp) ?_;delta c99 Zj Zf Zb Zo Zr Zd Zc Zm Za Zp Zq Ze;replace hv:=Zo8 hv;cases m with
 | true =>
   have hR':=Zo8 (show (411:Int)=R by rw [hR,ho]; simp);clear hR ho hhas hat ih
   (repeat' (first | (simp only [↓ZF,ZG,ptrV,boolV,Zo5,Zo7,ZJ,Zo9,undef,Ye,Zbl, *]) | (refine ZM ?_) | (refine ZH fun zr zh=>?_; have zg:=zh; (try simp only [Zpb] at zg)) | (exact Zpa _) | (refine Zpi ?_ ?_) | (refine Zpe (hm) ?_) | (with_reducible refine And.intro ?_ ?_)))
   all_goals first
    | rw [hR'.out]
    | (rename_i r3 n3 n3'; exact (Zph n3).of_set zg.2)
 | false =>
   by_cases h2:op=2
   ·subst h2;by_cases haf:af<0
    ·have hR':=Zo8 (show (9:Int)=R by rw [hR,ho]; simp [haf]);clear hR ho hhas hat ih
     (repeat' (first | (simp only [↓ZF,ZG,ptrV,boolV,Zo5,Zo7,ZJ,Zo9,undef,XE,Yd,ZT,WX,Ye,Wr,Ym,Yg,ZbL,Zbl,Zaw,Zd6, *]) | (refine ZM ?_) | (refine ZH fun zr zh=>?_; have zg:=zh; (try simp only [Zpb] at zg)) | (exact Zpa _) | (refine Zpi ?_ ?_) | (refine Zpe (hm) ?_) | (refine Zpe (hc) ?_) | (refine Zpe (hf) ?_) | (with_reducible refine And.intro ?_ ?_)))
     all_goals first
      | rw [hR'.out]
      | (rename_i r3 n3 n3'; exact (Zph n3).of_set zg.2)
    ·have hR':=Zo8 (show R=shsF p kids nm by rw [hR,ho]; simp [haf]);clear hR ho hhas hat
     (repeat' (first | (simp only [↓ZF,ZG,ptrV,intV,boolV,Zo5,Zo7,reduceCtorEq,Yb,ZJ,Zo9,undef,ZpE,XE,Yd,ZT,WX,ZW,Ye,Wr,Ym,Yg,ZbL,Yk,ZZ,Zbl,Zaw,Zd6,ZeU, *]) | (refine ZR mixed (fun _ _ _ _ e h=>⟨e.trans h.1,h.2⟩) _ (Zpa _) ?_) | (refine ZH fun zr zh=>?_; have zg:=zh; (try simp only [Zpb] at zg)) | (refine Zpe (hm) ?_) | (refine Zpe (hc) ?_) | (refine Zpe (hf) ?_)))
     rename_i r3 n3 n3';refine Za3 (ks:=kids) (nm:=nm) (v:=v) (r3:=r3) hN (fun i h H=>ih _ _ i h H) hR'.out (by simp only [ZI,Zo5,if_false, *]<;>rfl) (hv.out.mono ((Zph n3).of_set zg.2)) (by simp only [ZI,Zo5,if_true,if_false, *]<;>rfl) (by simp only [Zpf, *,if_true,if_false]<;>rfl) (by simp only [ZI,Zo5,if_true,if_false, *]<;>rfl) (by simp only [ZI,Zo5,if_true,if_false, *]<;>rfl) (by simp only [ZI,Zo5,if_true,if_false, *]<;>rfl) ((Zph n3).of_set zg.2)
   ·by_cases h3:op=3
    ·subst h3;rcases hat with rfl | ⟨j,hj,rfl⟩
     ·have hR':=Zo8 (show (9:Int)=R by rw [hR,ho]; simp);clear hR ho hhas ih
      (repeat' (first | (simp only [↓ZF,ZG,ptrV,boolV,Zo5,Zo7,Yb,ZJ,Zo9,undef,Int.reduceLT,Zp1,XE,Yd,ZT,Ye,Wr,Ym,Yg,Zbl,Zaw,Zd6, *]) | (refine ZM ?_) | (refine ZH fun zr zh=>?_; have zg:=zh; (try simp only [Zpb] at zg)) | (exact Zpa _) | (refine Zpi ?_ ?_) | (refine Zpe (hm) ?_) | (refine Zpe (hc) ?_) | (with_reducible refine And.intro ?_ ?_)))
      all_goals first
       | rw [hR'.out]
       | (rename_i r3 n3 n3'; exact (Zph n3).of_set zg.2)
     ·have hcd:=ZdF hj;have hjl:(j:Int)<(p.cons.length:Int):=by omega
      have hj0:¬ (j:Int)<0:=by omega
      by_cases hka:(kids.length:Int)=p.cons[j].arity
      ·have hR':=Zo8 (show R=shsF p kids nm by rw [hR,ho]; simp [hj,hka,hj0]);clear hR ho hhas
       (repeat' (first | (simp only [↓ZF,ZG,ptrV,intV,boolV,Zo5,Zo7,reduceCtorEq,Yb,ZJ,Zo9,undef,ZpE,XE,Yd,ZT,ZW,ZbM,Ye,Wr,Ym,Yg,Yk,ZZ,Zar,Zbl,Zaw,Zd6,ZeU, *]) | (refine ZR mixed (fun _ _ _ _ e h=>⟨e.trans h.1,h.2⟩) _ (Zpa _) ?_) | (refine ZH fun zr zh=>?_; have zg:=zh; (try simp only [Zpb] at zg)) | (refine Zpe (hm) ?_) | (refine Zpe (hc) ?_)))
       rename_i r3 n3 n3';refine Za3 (ks:=kids) (nm:=nm) (v:=v) (r3:=r3) hN (fun i h H=>ih _ _ i h H) hR'.out (by simp only [ZI,Zo5,if_false, *]<;>rfl) (hv.out.mono ((Zph n3).of_set zg.2)) (by simp only [ZI,Zo5,if_true,if_false, *]<;>rfl) (by simp only [Zpf, *,if_true,if_false]<;>rfl) (by simp only [ZI,Zo5,if_true,if_false, *]<;>rfl) (by simp only [ZI,Zo5,if_true,if_false, *]<;>rfl) (by simp only [ZI,Zo5,if_true,if_false, *]<;>rfl) ((Zph n3).of_set zg.2)
      ·have hR':=Zo8 (show (5:Int)=R by rw [hR,ho]; simp [hj,hka,hj0]);clear hR ho hhas ih
       (repeat' (first | (simp only [↓ZF,ZG,ptrV,intV,boolV,Zo5,Zo7,reduceCtorEq,Yb,ZJ,Zo9,undef,XE,Yd,ZT,ZW,ZbM,Ye,Wr,Ym,Yg,Yk,ZZ,Zar,Zbl,Zaw,Zd6, *]) | (refine ZM ?_) | (refine ZR mixed (fun _ _ _ _ e h=>⟨e.trans h.1,h.2⟩) _ (Zpa _) ?_) | (refine ZH fun zr zh=>?_; have zg:=zh; (try simp only [Zpb] at zg)) | (exact Zpa _) | (refine Zpi ?_ ?_) | (refine Zpe (hm) ?_) | (refine Zpe (hc) ?_) | (with_reducible refine And.intro ?_ ?_)))
       all_goals first
        | rw [hR'.out]
        | (rename_i r3 n3 n3'; exact (Zph n3).of_set zg.2)
    ·by_cases h1:op=1
     ·subst h1;cases hb with
      | false =>
        have hR':=Zo8 (show (411:Int)=R by rw [hR,ho]; simp);clear hR ho hat ih
        (repeat' (first | (simp only [↓ZF,ZG,ptrV,boolV,Zo5,Zo7,Yb,ZJ,Zo9,undef,XE,Yd,ZT,Ye,Wr,Ym,Yg,Zbl,Zaw,Zd6,ZeU, *]) | (refine ZM ?_) | (refine ZR mixed (fun _ _ _ _ e h=>⟨e.trans h.1,h.2⟩) _ (Zpa _) ?_) | (refine ZH fun zr zh=>?_; have zg:=zh; (try simp only [Zpb] at zg)) | (exact Zpa _) | (refine Zpi ?_ ?_) | (refine Zpe (hm) ?_) | (refine Zpe (hc) ?_) | (refine (hhas _ (hv.out.mono ?_)).use ?_) | (with_reducible refine And.intro ?_ ?_)))
        all_goals first
         | rw [hR'.out]
         | (rename_i r3 n3 n3'; exact (Zph n3).of_set zg.2)
      | true =>
        have hR':=Zo8 (show R=shsF p kids nm by rw [hR,ho]; simp);clear hR ho hat
        (repeat' (first | (simp only [↓ZF,ZG,ptrV,intV,boolV,Zo5,Zo7,reduceCtorEq,Yb,ZJ,Zo9,undef,ZpE,XE,Yd,ZT,ZW,Ye,Wr,Ym,Yg,Yk,ZZ,Zbl,Zaw,Zd6,ZeU, *]) | (refine ZR mixed (fun _ _ _ _ e h=>⟨e.trans h.1,h.2⟩) _ (Zpa _) ?_) | (refine ZH fun zr zh=>?_; have zg:=zh; (try simp only [Zpb] at zg)) | (exact Zpa _) | (refine Zpi ?_ ?_) | (refine Zpe (hm) ?_) | (refine Zpe (hc) ?_) | (refine (hhas _ (hv.out.mono ?_)).use ?_)))
        rename_i r3 n3 n3'
        ·refine Za3 (ks:=kids) (nm:=nm) (v:=v) (r3:=r3) hN (fun i h H=>ih _ _ i h H) hR'.out (by simp only [ZI,Zo5,if_false, *]<;>rfl) (hv.out.mono ((Zph n3).of_set zg.2)) (by simp only [ZI,Zo5,if_true,if_false, *]<;>rfl) (by simp only [Zpf, *,if_true,if_false]<;>rfl) (by simp only [ZI,Zo5,if_true,if_false, *]<;>rfl) (by simp only [ZI,Zo5,if_true,if_false, *]<;>rfl) (by simp only [ZI,Zo5,if_true,if_false, *]<;>rfl) ((Zph n3).of_set zg.2)
     ·by_cases h5:op=5
      ·subst h5;have hR':=Zo8 (show R=shsF p kids (name::nm) by rw [hR,ho]; simp);clear hR ho hat hhas
       (repeat' (first | (simp only [↓ZF,ZG,ptrV,boolV,Zo5,Zo7,Zpo,Yb,ZJ,fillV,setAt,Zo9,undef,ZN,XE,Yd,ZT,ZW,Ye,Wr,Ym,Yg,Yk,Jp,Zbt,Zbl,Zaw,Zd6,ZeU,ZmM, *]) | (refine ZR mixed (fun _ _ _ _ e h=>⟨e.trans h.1,h.2⟩) _ (Zpa _) ?_) | (refine ZH fun zr zh=>?_; have zg:=zh; (try simp only [Zpb] at zg)) | (exact Zpa _) | (refine Zpi ?_ ?_) | (refine Zpe (hm) ?_) | (refine Zpe (hc) ?_) | (refine ZnG true [name] (by simp) (hv.out.mono ?_) (fun v' H' hs' hv'=>?_))))
       rename_i r3 n3 n3'
       ·have k4:=hs' _ _ (Zpc _ _ _);have k3:H' r3=some (.cells 80 [cosV p.cons,fusV p.funs] 0):=hs' _ _ (by rw [Zpg _ _ zg.1.2]; exact Zpc _ _ _);have hv2:ScAt H' v' (name::nm):=hv';have hsH:SubH H H':=((Zph n3).of_set zg.2).trans hs'
        (repeat' (first | (simp only [↓ZF,ZG,intV,Zo5,Zo7,reduceCtorEq,Zo9,ZZ, *])))
        exact Za3 (ks:=kids) (nm:=name::nm) (v:=v') (r3:=r3) hN (fun i h H=>ih _ _ i h H) hR'.out (by simp only [ZI,Zo5,if_true,if_false, *]<;>rfl) hv2 (by simp only [ZI,Zo5,if_true,if_false, *]<;>rfl) k3 (by simp only [ZI,Zo5,if_true,if_false, *]<;>rfl) (by simp only [ZI,Zo5,if_true,if_false, *]<;>rfl) (by simp only [ZI,Zo5,if_true,if_false, *]<;>rfl) hsH
      ·have hR':=Zo8 (show R=shsF p kids nm by rw [hR,ho]; simp [h1,h2,h3,h5]);clear hR ho hhas hat
       (repeat' (first | (simp only [↓ZF,ZG,ptrV,intV,boolV,Zo5,Zo7,reduceCtorEq,Yb,ZJ,Zo9,undef,XE,Yd,ZT,ZW,Ye,Wr,Ym,Yg,Yk,ZZ,Zbl,Zaw,Zd6,ZeU, *]) | (refine ZR mixed (fun _ _ _ _ e h=>⟨e.trans h.1,h.2⟩) _ (Zpa _) ?_) | (refine ZH fun zr zh=>?_; have zg:=zh; (try simp only [Zpb] at zg)) | (refine Zpe (hm) ?_) | (refine Zpe (hc) ?_)))
       rename_i r3 n3 n3';refine Za3 (ks:=kids) (nm:=nm) (v:=v) (r3:=r3) hN (fun i h H=>ih _ _ i h H) hR'.out (by simp only [ZI,Zo5,if_false, *]<;>rfl) (hv.out.mono ((Zph n3).of_set zg.2)) (by simp only [ZI,Zo5,if_true,if_false, *]<;>rfl) (by simp only [Zpf, *,if_true,if_false]<;>rfl) (by simp only [ZI,Zo5,if_true,if_false, *]<;>rfl) (by simp only [ZI,Zo5,if_true,if_false, *]<;>rfl) (by simp only [ZI,Zo5,if_true,if_false, *]<;>rfl) ((Zph n3).of_set zg.2)
theorem shape_ok (p:Pr) (hpc:p.cons.length≤1099511627776) (hpf:p.funs.length≤1099511627776):∀ (n:Nat) (e:Ex) (nm:List ByteArray) (v:VV) (H:AH),e.sz<n→e.sz≤1099511627776→e.nmOk→ScAt H v nm→ReadF Try.prog 99 [prV p,exV e,v] (iV (e.shF p nm)) H:=by
 intro n
 induction n with
 | zero=>intro e nm v H h0; omega
 | succ n ih =>
   intro e nm v H h0 hs hnm hv;have z:=e.sz_eq;have hkl:=YL e.kids;rw [Ex.nmOk_iff] at hnm;refine Zmb (ac:=atCo p.cons e.name) (af:=atFu p.funs e.name) (m:=misF e) (hb:=hasF nm e.name) (nm:=nm) (by omega) (fun nm' v' i h H hv'=>?_) (Zju e hnm.1) (Zkp p.cons e.name hpc) (findFu p.funs e.name hpf) ?_ (fun H h=>schas_ok nm e.name h) hv (ownF p e nm) rfl (e.shF_eq p nm)
   ·have:=ZX (Zpk h)
    exact ih _ _ _ _ (by omega) (by omega) (hnm.2 _ (Zpk h)) hv'
   ·rcases WA (fun c:Co=>decide (c.name=e.name)) p.cons with ⟨h,_⟩ | ⟨j,h,hj,_⟩
    ·exact .inl h
    ·exact .inr ⟨j,h,hj⟩
end Go.PV.Ytglpmlbbaedbiaa
end
section
open Go.PV.AH renaming set_none→Zpb,get→Zpf,set_same→Zpc,ne_of→Zo6
open Go.PV.GhL renaming cons→Zpn
open Go.PV.Hold renaming mk→Zo8
open Go.PV.PureF renaming use→Zpe,forget→ZpF
open Go.PV.SubH renaming refl→Zpa,new→Zph,of_set→Zpi
open List renaming take_append_drop→Zqi,length_take→ZpX,drop_eq_getElem_cons→ZpI,drop→Zo9,append_nil→Zp2,take_of_length_le→ZpD,getElem_mem→Zpk,drop_eq_nil_of_le→ZpC
open Nat renaming reduceEqDiff→Zo5,reduceLT→Zo7,reduceAdd→Zpd
open Option renaming map_none→ZpS,map_some→Zps
set_option maxRecDepth 20000
set_option maxHeartbeats 4000000
namespace Go.PV.Ytglpmlbbaedbiaa
open Go Go.Proofs
theorem takeStr {l:List ByteArray} {n:ByteArray} {i:Nat} {H:AH} {K:VE→AH→Prop} (hi:i≤l.length) (hl:l.length≤1099511627776) (hK:K (.ret (boolV (hasF (l.take i) n))) H):ZU Try.prog 82 [.slice false i (encC strE l),sV n] H K:=by
 have e:encC strE l=encC strE (l.take i)++encC strE (l.drop i):=by rw [← Yu,Zqi]
 rw [e];refine YU (Zpn (GhV.trunc _ _ _ _ _) (GhL.refl _ _)) ?_;have el:(l.take i).length=i:=by rw [ZpX]; omega
 rw [show VV.slice false i (encC strE (l.take i))=strsV (l.take i) from by rw [strsV,encS,el]];exact (Zi0 (l.take i) n (by omega)).use hK
def Zby (R:Int) (l:List Co):List Pa→Int
 | []=>R
 | x::r=>if paChk l x=0 then Zby R l r else paChk l x
theorem Zjw {R:Int} {l:List Co} {ps:List Pa} {i:Nat} (h:i<ps.length):Zby R l (ps.drop i)=if paChk l ps[i]=0 then Zby R l (ps.drop (i+1)) else paChk l ps[i]:=by
 rw [ZpI h,Zby]
def Zcn (p:Pr) (c:Cl):Int:=if 1000<c.body.sz then 7 else if 100<c.body.dp then 6 else c.body.shF p (Yx c.pats).reverse
open Classical in
noncomputable def clErr (p:Pr) (f:Fu) (c:Cl):Int :=
 if (c.pats.length:Int)=f.arity then Zby (if (Yx c.pats).Nodup then Zcn p c else 10) p.cons c.pats else 5
def clQ (H0:AH) (R:Int):APost:=YP Try.prog [.tmp 6] fun e H'=>e=.ret (iV R)∧SubH H0 H'
structure ClOk (c:Cl):Prop where
 pats:pasSz c.pats≤1099511627776
 names:∀ q∈c.pats,∀ x∈q.all 0,x.1.name.size≤1099511627776
 body:c.body.sz≤1099511627776
 bnames:c.body.nmOk
theorem ZkL {p:Pr} {c:Cl} {t:Nat→VV} {H0 B:AH} {r3 r5:Nat} {R:Int} (hpc:p.cons.length≤1099511627776) (hpf:p.funs.length≤1099511627776) (hc:ClOk c) (hR:R=Zcn p c)
 (h3:t 3=ptrV r3 0) (h5:t 5=ptrV r5 0) (h10:t 10=strsV (Yx c.pats)) (k3:B r3=some (.cells 80 [cosV p.cons,fusV p.funs] 0)) (k5:B r5=some (.cells 93 (clE c) 0)) (hs:SubH H0 B) :
 ACx ⟨Try.prog,72,none⟩ c81_1 (clQ H0 R) ⟨t,[]⟩ B:=by
 have hsz:=csize_ok c.body (by have:=hc.body; omega);have hvl:(Yx c.pats).length≤1099511627776:=by have:=Zce c.pats; have:=hc.pats; omega
 have hsh:=fun v H (h:ScAt H v (Yx c.pats).reverse)=>shape_ok p hpc hpf (c.body.sz+1) c.body _ v H (by omega) hc.body hc.bnames h
 unfold Zcn at hR;replace hR:=Zo8 hR;delta c81_1 Zd Zb Zo Zr Za Zh Zc Zm Zf Zq;refine Ya rfl (fun _ _ _ h=>h) ?_
 (repeat' (first | (simp only [↓ZF,ZG,ZP,ptrV,Zo5,Zo7,reduceCtorEq,Zo9,ZhB,Ye,Zbk,en_98,ZmM,en_99, *]) | (refine Yf ?_ ?_<;>intro) | (refine ZM ?_) | (refine ZR mixed (fun _ _ _ _ e h=>⟨e.trans h.1,h.2⟩) _ (Zpa _) ?_) | (refine Zpe (hsz) ?_) | (refine ZnG false (Yx c.pats) hvl (nm:=[]) rfl (fun v' H' hs' hv'=>?_))))
 all_goals first
  | (have h:1000<(c.body.sz:Int):=by assumption
     rw [hR.out,if_pos (by omega)])
  | (have h:¬ 1000<(c.body.sz:Int):=by assumption
     have h':100<(c.body.dp:Int):=by assumption
     rw [hR.out,if_neg (by omega),if_pos (by omega)])
  | skip
 have h:¬ 1000<(c.body.sz:Int):=by assumption
 have h':¬ 100<(c.body.dp:Int):=by assumption
 have e:=hR.out;rw [if_neg (by omega),if_neg (by omega)] at e;rw [Zp2] at hv';have hs2:=hs.trans hs';refine (hsh v' H' hv').use ?_;rw [← e];clear hR hsh e
 (repeat' (first | (simp only [↓ZF,ZG,Zo5,Zo7, *]) | (refine ZM ?_)))
theorem Zmc {p:Pr} {c:Cl} {t:Nat→VV} {H0 B:AH} {r3 r5:Nat} {R:Int} (hpc:p.cons.length≤1099511627776) (hpf:p.funs.length≤1099511627776) (hc:ClOk c) (hR:R=open Classical in if (Yx c.pats).Nodup then Zcn p c else 10)
 (h3:t 3=ptrV r3 0) (h5:t 5=ptrV r5 0) (k3:B r3=some (.cells 80 [cosV p.cons,fusV p.funs] 0)) (k5:B r5=some (.cells 93 (clE c) 0)) (hs:SubH H0 B) :
 ACx ⟨Try.prog,72,none⟩ c81_2 (clQ H0 R) ⟨t,[]⟩ B:=by
 have hvl:(Yx c.pats).length≤1099511627776:=by have:=Zce c.pats; have:=hc.pats; omega
 have hva:=Zjv c.pats hc.pats;delta c81_2 Zd Zb Zo Zr Zc Za Ze Zq;refine Ya rfl (fun _ _ _ h=>h) ?_;replace hR:=Zo8 hR;have hct:=fun (t:Nat→VV) (B:AH) (h:R=Zcn p c)=>ZkL (t:=t) (B:=B) (R:=R) (H0:=H0) (r3:=r3) (r5:=r5) hpc hpf hc h
 replace hc:=Zo8 hc
 (repeat' (first | (simp only [↓ZF,ZG,ptrV,intV,Zo5,Zo7,reduceCtorEq,Zo9,Zal,Wi,Jp,en_97, *]) | (refine Zpe (hva) ?_)))
 refine ZY (fun _ _ _ h=>h) (fun A H'=>SubH B H'∧A.d=[]∧A.t 3=ptrV r3 0∧A.t 5=ptrV r5 0∧A.t 10=strsV (Yx c.pats)∧A.t 40=strsV (Yx c.pats)∧A.t 41=iV (Yx c.pats).length∧∃ i:Nat,i≤(Yx c.pats).length∧A.t 42=iV i∧((Yx c.pats).take i).Nodup)
  (fun A _=>match A.t 42 with | .lit (.int _ i)=>(((Yx c.pats).length:Int)-i).toNat | _=>0) ?_ ?_
 ·exact ⟨Zpa _,rfl,(by simp only [ZI,Zo5,if_false, *]<;>rfl),(by simp only [ZI,Zo5,if_false, *]<;>rfl),(by simp only [ZI,Zo5,if_true,if_false, *]<;>rfl),(by simp only [ZI,Zo5,if_true,if_false, *]<;>rfl),(by simp only [ZI,Zo5,if_true,if_false, *]<;>rfl),0,by omega,(by simp only [ZI,Zo5,if_true,if_false, *]<;>rfl),.nil⟩
 ·clear h3 h5 hva;rintro ⟨t,d⟩ H' ⟨hb,rfl,h3,h5,h10,h40,h41,i,hi,h42,hnd⟩;dsimp only at h3 h5 h10 h40 h41 h42;have q3:=hb _ _ k3;have q5:=hb _ _ k5;delta b81_2 Zn Zr Za Zk Zb Zc Zq Zo Zf Zm;have hE:=Zo8 hR.out;clear hR;generalize Yx c.pats=vs at *
  by_cases hlt:i<vs.length
  ·have hil:(i:Int)<(vs.length:Int):=by omega
   have hdi:=Ze8 hlt;have hsn:=Zeg (l:=vs.take i) (s:=vs[i]);rw [← YM hlt] at hsn;replace hsn:=Zo8 hsn;replace hnd:=Zo8 hnd;clear hct k3 k5
   (repeat' (first | (simp only [↓ZF,ZG,ptrV,boolV,Zo5,Zo7,reduceCtorEq,YC,ZpS,Zps,Xj,idxV,idxOk,Nat.sub_zero,Ym,Jp,ZoT, *]) | (refine Yp ?_ ?_<;>intro) | (refine ZM ?_) | (refine takeStr (by omega) hvl ?_) | (with_reducible refine And.intro ?_ ?_)))
   all_goals try rw [ZO (n:=(i:Int)+1) (by omega) (by omega)]
   all_goals first
    | omega
    | exact fun h=>trivial
    | exact hs.trans hb
    | (have h2:hasF (vs.take i) vs[i]=true:=by assumption
       rw [hE.out,if_neg];intro h3;exact (hsn.out.1 (ZgY h3 _)).2 (Zfc.1 h2))
    | (have h2:hasF (vs.take i) vs[i]=false:=by assumption
       refine ⟨i+1,by omega,rfl,hsn.out.2 ⟨hnd.out,fun h3=>?_⟩⟩;rw [Zfc.2 h3] at h2;cases h2)
  ·have hil:¬ (i:Int)<(vs.length:Int):=by omega
   rw [ZpD (by omega)] at hnd;have e:=hE.out;rw [if_pos hnd] at e;clear hE;replace e:=Zo8 e
   (repeat' (first | (simp only [↓ZF,ZG,ptrV,Zo7, *])))
   exact hct _ _ e.out (by simp only [ZI,Zo5,if_false]; exact h3) (by simp only [ZI,Zo5,if_false]; exact h5) (by simp only [ZI,Zo5,if_false]; exact h10) q3 q5 (hs.trans hb)
theorem Zoo {p:Pr} {f:Fu} {c:Cl} (hpc:p.cons.length≤1099511627776) (hpf:p.funs.length≤1099511627776) (hc:ClOk c):PureF Try.prog 81 [prV p,fuV f,clV c] (iV (clErr p f c)):=by
 have hpl:=XG c.pats;have hps:=hc.pats;have hN:c.pats.length≤1099511627776:=by omega
 have hpk:∀ i (h:i<c.pats.length),PureF Try.prog 96 [paV c.pats[i],cosV p.cons] (iV (paChk p.cons c.pats[i])):=fun i h =>
  Zok _ _ (by have:=Xd (Zpk h); omega) hpc (hc.names _ (Zpk h))
 clear hpl hps;refine ZpF fun H0=>?_
 refine ZK fd81 (by simp) ?_;delta c81 Zj Zf Zd Zb Ze Zn Zr Zq;obtain ⟨R,hR⟩:∃ R,R=clErr p f c:=⟨_,rfl⟩
 rw [← hR];unfold clErr at hR;by_cases hfa:(c.pats.length:Int)=f.arity
 ·rw [if_pos hfa] at hR;replace hfa:=hfa.symm;have hct:=fun (t:Nat→VV) (B:AH) (r3 r5:Nat) h=>Zmc (p:=p) (c:=c) (t:=t) (B:=B) (R:=R) (H0:=H0) (r3:=r3) (r5:=r5) hpc hpf hc h
  obtain ⟨R2,hR2⟩:∃ R2,R2=(open Classical in if (Yx c.pats).Nodup then Zcn p c else 10):=⟨_,rfl⟩
  rw [← hR2] at hR;replace hR:=Zo8 hR;replace hR2:=Zo8 hR2;replace hc:=Zo8 hc
  (repeat' (first | (simp only [↓ZF,ZG,ptrV,intV,Zo5,Zo7,reduceCtorEq,ZJ,Zo9,undef,Zal,Wq,Wi,Yg,Xl, *]) | (refine ZH fun zr zh=>?_; have zg:=zh; (try simp only [Zpb] at zg))))
  rename_i r3 n3 n3' r4 n4 n4'
  refine Za2 (fun t H=>SubH H0 H∧H r3=some (.cells 80 [cosV p.cons,fusV p.funs] 0)∧H zr=some (.cells 93 (clE c) 0)∧t 3=ptrV r3 0∧t 5=ptrV zr 0∧t 23=pasV c.pats∧t 24=iV c.pats.length∧t 25=iV 0)
   ⟨((Zph n3).of_set n4'.2).of_set zg.2.2,(by simp only [Zpf, *,if_true,if_false]<;>rfl),Zpc _ _ _,(by simp only [ZI,Zo5,if_true,if_false, *]<;>rfl),(by simp only [ZI,Zo5,if_true,if_false, *]<;>rfl),(by simp only [ZI,Zo5,if_true,if_false, *]<;>rfl),(by simp only [ZI,Zo5,if_true,if_false, *]<;>rfl),(by simp only [ZI,Zo5,if_true,if_false, *]<;>rfl)⟩ ?_
  clear n3 n3' n4 n4' zh zg hfa;rintro t B ⟨hs,k3,k5,h3,h5,h23,h24,h25⟩
  refine ZY (fun _ _ _ h=>h) (fun A H'=>SubH B H'∧A.d=[]∧A.t 3=ptrV r3 0∧A.t 5=ptrV zr 0∧A.t 23=pasV c.pats∧A.t 24=iV c.pats.length∧∃ i:Nat,i≤c.pats.length∧A.t 25=iV i∧R=Zby R2 p.cons (c.pats.drop i))
   (fun A _=>match A.t 25 with | .lit (.int _ i)=>((c.pats.length:Int)-i).toNat | _=>0) ?_ ?_
  ·exact ⟨Zpa _,rfl,h3,h5,h23,h24,0,by omega,h25,hR.out⟩
  ·clear hR h3 h5 h23 h24 h25;rintro ⟨t,d⟩ H' ⟨hb,rfl,h3,h5,h23,h24,i,hi,h25,hR⟩;dsimp only at h3 h5 h23 h24 h25;have q3:=hb _ _ k3;have q5:=hb _ _ k5;delta b81_1 Zn Zr Zk Zb Zi Zg Zd Zo Zc Za Zm;by_cases hlt:i<c.pats.length
   ·have hil:(i:Int)<(c.pats.length:Int):=by omega
    have hdi:=WM hlt;have hpi:=hpk i hlt;rw [Zjw hlt] at hR;replace hR:=Zo8 hR;clear hct hpk k3 k5
    (repeat' (first | (simp only [↓ZF,ZG,ptrV,Zo5,Zo7,Zpd,setAt,Zo9,XE,XB,Wr,Zcs,WE,Xl,en_96, *]) | (refine Yp ?_ ?_<;>intro) | (refine ZM ?_) | (refine ZH fun zr zh=>?_; have zg:=zh; (try simp only [Zpb] at zg); (try have zn_q3:=Zo6 q3 zh); (try have zn_q3:=Zo6 q3 zg.2); (try have zn_q3:=Zo6 q3 zg.2.2); (try have zn_q5:=Zo6 q5 zh); (try have zn_q5:=Zo6 q5 zg.2); (try have zn_q5:=Zo6 q5 zg.2.2)) | (refine Zpi ?_ ?_) | (exact SubH.none (by assumption) (by assumption)) | (refine Zpe (hpi) ?_) | (with_reducible refine And.intro ?_ ?_)))
    all_goals try rw [ZO (n:=(i:Int)+1) (by omega) (by omega)]
    all_goals first
     | omega
     | exact hs.trans hb
     | exact hb.of_set (hb.none zh)
     | exact hs.none (hb.none zh)
     | (have hne:(!decide (paChk p.cons c.pats[i]=0))=true:=by assumption
        rw [hR.out,if_neg (by simpa using hne)])
     | (have hne:(!decide (paChk p.cons c.pats[i]=0))=false:=by assumption
        exact ⟨i+1,by omega,rfl,by rw [hR.out,if_pos (by simpa using hne)]⟩)
     | trace_state
   ·have hil:¬ (i:Int)<(c.pats.length:Int):=by omega
    rw [ZpC (by omega)] at hR;have e:=Zo8 (show R=_ from (show R=R2 from hR).trans hR2.out);clear hR hR2
    (repeat' (first | (simp only [↓ZF,ZG,ptrV,Zo7, *])))
    exact hct _ _ _ _ e.out (by simp only [ZI,Zo5,if_false]; exact h3) (by simp only [ZI,Zo5,if_false]; exact h5) q3 q5 (hs.trans hb)
 ·rw [if_neg hfa] at hR;replace hR:=Zo8 hR
  (repeat' (first | (simp only [↓ZF,ZG,ptrV,intV,Zo5,Zo7,reduceCtorEq,ZJ,Zo9,undef,Zal,Wq,Wi,Yg,Xl, *]) | (refine ZM ?_) | (refine ZH fun zr zh=>?_; have zg:=zh; (try simp only [Zpb] at zg)) | (exact Zpa _) | (refine Zpi ?_ ?_) | (with_reducible refine And.intro ?_ ?_)))
  all_goals first
   | rw [hR.out]
   | (rename_i r3 n3 n3' r4 n4 n4'; exact ((Zph n3).of_set n4'.2).of_set zg.2.2)
end Go.PV.Ytglpmlbbaedbiaa
end
section
open Go.PV.AH renaming set_none→Zpb,ne_of→Zo6,get→Zpf,set_same→Zpc
open Go.PV.GhL renaming cons→Zpn
open Go.PV.Hold renaming mk→Zo8
open Go.PV.PureF renaming use→Zpe,forget→ZpF
open Go.PV.SubH renaming refl→Zpa,of_set→Zpi,new→Zph
open List renaming take_append_drop→Zqi,length_take→ZpX,drop_eq_getElem_cons→ZpI,getElem_mem→Zpk,drop→Zo9,drop_eq_nil_of_le→ZpC
open Nat renaming reduceLT→Zo7,reduceEqDiff→Zo5,reduceAdd→Zpd,reduceMul→ZpQ
open Option renaming map_none→ZpS,map_some→Zps
set_option maxRecDepth 20000
set_option maxHeartbeats 4000000
namespace Go.PV.Ytglpmlbbaedbiaa
open Go Go.Proofs
theorem takeFu {l:List Fu} {n:ByteArray} {i:Nat} {H:AH} {K:VE→AH→Prop} (hi:i≤l.length) (hl:l.length≤1099511627776) (hK:K (.ret (iV (atFu (l.take i) n))) H):ZU Try.prog 80 [.slice false i (encC fuE l),sV n] H K:=by
 have e:encC fuE l=encC fuE (l.take i)++encC fuE (l.drop i):=by rw [← Yu,Zqi]
 rw [e];refine YU (Zpn (GhV.trunc _ _ _ _ _) (GhL.refl _ _)) ?_;have el:(l.take i).length=i:=by rw [ZpX]; omega
 rw [show VV.slice false i (encC fuE (l.take i))=fusV (l.take i) from by rw [fusV,encS,el]];exact (findFu (l.take i) n (by omega)).use hK
def ZbR (p:Pr) (i:Nat) (f:Fu):Int :=
 if nameB f.name=true then
  (if 0≤atCo p.cons f.name∨0≤atFu (p.funs.take i) f.name then 10 else if f.arity<0∨10<f.arity then 4 else if f.cls.length<1∨100<f.cls.length then 5 else 0)
 else 411
def JA (R:Int) (p:Pr):List Fu→Nat→Int
 | [],_=>R
 | f::l,i=>if ZbR p i f=0 then JA R p l (i+1) else ZbR p i f
theorem ZgB {R:Int} {p:Pr} {l:List Fu} {i k:Nat} (h:i<l.length):JA R p (l.drop i) k=if ZbR p k l[i]=0 then JA R p (l.drop (i+1)) (k+1) else ZbR p k l[i]:=by
 rw [ZpI h,JA]
noncomputable def Za4 (R:Int) (p:Pr) (f:Fu):List Cl→Int
 | []=>R
 | c::l=>if clErr p f c=0 then Za4 R p f l else clErr p f c
theorem Zjx {R:Int} {p:Pr} {f:Fu} {l:List Cl} {i:Nat} (h:i<l.length):Za4 R p f (l.drop i)=if clErr p f l[i]=0 then Za4 R p f (l.drop (i+1)) else clErr p f l[i]:=by
 rw [ZpI h,Za4]
noncomputable def Ws (p:Pr):List Fu→Int
 | []=>0
 | f::l=>Za4 (Ws p l) p f f.cls
theorem Ziq {p:Pr} {l:List Fu} {i:Nat} (h:i<l.length):Ws p (l.drop i)=Za4 (Ws p (l.drop (i+1))) p l[i] l[i].cls:=by
 rw [ZpI h,Ws]
noncomputable def Jh (p:Pr):Int:=if 100<p.funs.length then 5 else if Zbx p.cons=0 then JA (Ws p p.funs) p p.funs 0 else Zbx p.cons
structure PrOk (p:Pr):Prop where
 cons:p.cons.length≤1099511627776
 funs:p.funs.length≤1099511627776
 cnames:∀ c∈p.cons,c.name.size≤1099511627776
 fnames:∀ f∈p.funs,f.name.size≤1099511627776
 cls:∀ f∈p.funs,f.cls.length≤1099511627776∧∀ c∈f.cls,ClOk c
def ckQ (H0:AH) (R:Int):APost:=YP Try.prog [.tmp 2] fun e H'=>e=.ret (iV R)∧SubH H0 H'
theorem Zmd {p:Pr} {t:Nat→VV} {H0 B:AH} {r1:Nat} {R:Int} (hp:PrOk p) (hR:R=Ws p p.funs)
 (h1:t 1=ptrV r1 0) (k1:B r1=some (.cells 80 [cosV p.cons,fusV p.funs] 0)) (hs:SubH H0 B) :
 ACx ⟨Try.prog,95,none⟩ c58_3 (ckQ H0 R) ⟨t,[]⟩ B:=by
 have hcl:∀ i (h:i<p.funs.length) k (h':k<p.funs[i].cls.length),PureF Try.prog 81 [prV p,fuV p.funs[i],clV p.funs[i].cls[k]] (iV (clErr p p.funs[i] p.funs[i].cls[k])):=fun i h k h' =>
  Zoo hp.cons hp.funs ((hp.cls _ (Zpk h)).2 _ (Zpk h'))
 have hcN:∀ i (h:i<p.funs.length),p.funs[i].cls.length≤1099511627776:=fun i h=>(hp.cls _ (Zpk h)).1
 have hN:=hp.funs;clear hp;delta c58_3 Zd Zb Ze Zq;refine Ya rfl (fun _ _ _ h=>h) ?_;replace hR:=Zo8 hR
 (repeat' (first | (simp only [↓ZF,ZG,ptrV,intV,Zo7,reduceCtorEq,Zo9,WX,ZbL,ZaH, *])))
 refine ZY (fun _ _ _ h=>h) (fun A H'=>SubH B H'∧A.d=[]∧A.t 1=ptrV r1 0∧A.t 73=fusV p.funs∧A.t 74=iV p.funs.length∧∃ i:Nat,i≤p.funs.length∧A.t 75=iV i∧R=Ws p (p.funs.drop i))
  (fun A _=>match A.t 75 with | .lit (.int _ i)=>((p.funs.length:Int)-i).toNat | _=>0) ?_ ?_
 ·exact ⟨Zpa _,rfl,(by simp only [ZI,Zo5,if_false, *]<;>rfl),(by simp only [ZI,Zo5,if_true,if_false, *]<;>rfl),(by simp only [ZI,Zo5,if_true,if_false, *]<;>rfl),0,by omega,(by simp only [ZI,Zo5,if_true,if_false, *]<;>rfl),hR.out⟩
 ·clear hR h1;rintro ⟨t,d⟩ H' ⟨hb,rfl,h1,h73,h74,i,hi,h75,hR⟩;dsimp only at h1 h73 h74 h75;have q1:=hb _ _ k1;delta b58_3 Zn Zr Zk Zb Zi Zg Zd Ze Zq;by_cases hlt:i<p.funs.length
  ·have hil:(i:Int)<(p.funs.length:Int):=by omega
   have hdi:=Jg hlt;rw [Ziq hlt] at hR;replace hR:=Zo8 hR;have hcli:=hcl i hlt;have hcNi:=hcN i hlt;clear k1 hcl hcN
   (repeat' (first | (simp only [↓ZF,ZG,ptrV,intV,Zo5,Zo7,Zpd,reduceCtorEq,setAt,Zo9,Za9,Zdu,Zgq,Zke,ZcR,ZaH,Zbj, *]) | (refine ZH fun zr zh=>?_; have zg:=zh; (try simp only [Zpb] at zg); (try have zn_q1:=Zo6 q1 zh); (try have zn_q1:=Zo6 q1 zg.2); (try have zn_q1:=Zo6 q1 zg.2.2))))
   refine Za2 (fun t H=>SubH B H∧H r1=some (.cells 80 [cosV p.cons,fusV p.funs] 0)∧H zr=some (.cells 40 (fuE p.funs[i]) 0)∧t 1=ptrV r1 0∧t 7=ptrV zr 0∧t 73=fusV p.funs∧t 74=iV p.funs.length∧t 75=iV i∧t 80=clsV p.funs[i].cls∧t 81=iV p.funs[i].cls.length∧t 82=iV 0)
    ⟨hb.of_set (hb.none zh),(by simp only [Zpf, *,if_false]<;>rfl),Zpc _ _ _,(by simp only [ZI,Zo5,if_false, *]<;>rfl),(by simp only [ZI,Zo5,if_true,if_false, *]<;>rfl),(by simp only [ZI,Zo5,if_false, *]<;>rfl),(by simp only [ZI,Zo5,if_false, *]<;>rfl),(by simp only [ZI,Zo5,if_false, *]<;>rfl),(by simp only [ZI,Zo5,if_true,if_false, *]<;>rfl),(by simp only [ZI,Zo5,if_true,if_false, *]<;>rfl),(by simp only [ZI,Zo5,if_true,if_false, *]<;>rfl)⟩ ?_
   clear zh zg q1 h1 h73 h74 h75 hb hdi;rintro t B2 ⟨hb2,k1,k7,h1,h7,h73,h74,h75,h80,h81,h82⟩
   refine ZY (fun _ _ _ h=>h) (fun A H'=>SubH B2 H'∧A.d=[]∧A.t 1=ptrV r1 0∧A.t 7=ptrV zr 0∧A.t 73=fusV p.funs∧A.t 74=iV p.funs.length∧A.t 75=iV i∧A.t 80=clsV p.funs[i].cls∧A.t 81=iV p.funs[i].cls.length∧∃ k:Nat,k≤p.funs[i].cls.length∧A.t 82=iV k∧R=Za4 (Ws p (p.funs.drop (i+1))) p p.funs[i] (p.funs[i].cls.drop k))
    (fun A _=>match A.t 82 with | .lit (.int _ k)=>((p.funs[i].cls.length:Int)-k).toNat | _=>0) ?_ ?_
   ·exact ⟨Zpa _,rfl,h1,h7,h73,h74,h75,h80,h81,0,by omega,h82,hR.out⟩
   ·clear hR h1 h7 h73 h74 h75 h80 h81 h82;rintro ⟨t,d⟩ H' ⟨hb,rfl,h1,h7,h73,h74,h75,h80,h81,k,hk,h82,hR⟩;dsimp only at h1 h7 h73 h74 h75 h80 h81 h82;have q1:=hb _ _ k1;have q7:=hb _ _ k7;delta b58_2 Zn Zr Zk Zb Zi Zg Zo Zc Za Zm;by_cases hkt:k<p.funs[i].cls.length
    ·have hkl:(k:Int)<(p.funs[i].cls.length:Int):=by omega
     have hdk:=ZdE hkt;have hck:=hcli k hkt;rw [Zjx hkt] at hR;replace hR:=Zo8 hR;clear k1 k7 hcli
     (repeat' (first | (simp only [↓ZF,ZG,ptrV,Zo5,Zo7,Zpd,setAt,Zo9,Zdu,Zig,Zbk,Zih,Za8,Zbj,en_81, *]) | (refine Yp ?_ ?_<;>intro) | (refine ZM ?_) | (refine ZH fun zr zh=>?_; have zg:=zh; (try simp only [Zpb] at zg); (try have zn_q1:=Zo6 q1 zh); (try have zn_q1:=Zo6 q1 zg.2); (try have zn_q1:=Zo6 q1 zg.2.2); (try have zn_q7:=Zo6 q7 zh); (try have zn_q7:=Zo6 q7 zg.2); (try have zn_q7:=Zo6 q7 zg.2.2)) | (refine Zpi ?_ ?_) | (exact SubH.none (by assumption) (by assumption)) | (refine Zpe (hck) ?_) | (with_reducible refine And.intro ?_ ?_)))
     all_goals try rw [ZO (n:=(k:Int)+1) (by omega) (by omega)]
     all_goals first
      | omega
      | exact (hs.trans hb2).trans hb
      | exact hb.of_set (hb.none zh)
      | exact hs.none (hb2.none (hb.none zh))
      | (have hne:(!decide (clErr p p.funs[i] p.funs[i].cls[k]=0))=true:=by assumption
         rw [hR.out,if_neg (by simpa using hne)])
      | (have hne:(!decide (clErr p p.funs[i] p.funs[i].cls[k]=0))=false:=by assumption
         exact ⟨k+1,by omega,rfl,by rw [hR.out,if_pos (by simpa using hne)]⟩)
      | trace_state
    ·have hkl:¬ (k:Int)<(p.funs[i].cls.length:Int):=by omega
     rw [ZpC (show p.funs[i].cls.length≤k by omega)] at hR;have e:=Zo8 (show R=Ws p (p.funs.drop (i+1)) from hR);clear hR
     (repeat' (first | (simp only [↓ZF,ZG,ptrV,Zo5,Zo7, *]) | (refine Ya rfl (fun _ _ _ h=>h) ?_)))
     delta c58_1 Zm Za
     (repeat' (first | (simp only [↓ZF,ZG,ptrV,Zo5,Zo7, *]) | (with_reducible refine And.intro ?_ ?_)))
     all_goals try rw [ZO (n:=(i:Int)+1) (by omega) (by omega)]
     all_goals first
      | omega
      | exact hb2.trans hb
      | exact ⟨i+1,by omega,rfl,e.out⟩
      | trace_state
  ·have hil:¬ (i:Int)<(p.funs.length:Int):=by omega
   rw [ZpC (by omega)] at hR;have e:=Zo8 (show R=0 from hR);clear hR
   (repeat' (first | (simp only [↓ZF,ZG,ptrV,Zo7, *]) | (refine Ya rfl (fun _ _ _ h=>h) ?_)))
   delta c58_2 Zf
   (repeat' (first | (simp only [↓ZF,ZG,Zo5,Zo7, *]) | (refine ZM ?_) | (with_reducible refine And.intro ?_ ?_)))
   all_goals first
    | rw [e.out]
    | exact hs.trans hb
theorem check_ok {p:Pr} (hp:PrOk p):PureF Try.prog 58 [prV p] (iV (Jh p)):=by
 have hcc:=Zjs p.cons hp.cons hp.cnames;have hnm:∀ i (h:i<p.funs.length),PureF Try.prog 78 [sV p.funs[i].name] (boolV (nameB p.funs[i].name)):=fun i h=>Zdd _ (hp.fnames _ (Zpk h))
 have hco:=fun n=>Zkp p.cons n hp.cons
 have hN:=hp.funs;refine ZpF fun H0=>?_
 refine ZK fd58 (by simp) ?_;delta c58 Zj Zf Zd Zb Ze Zm Zr Zo Zc Za Zq;obtain ⟨R,hR⟩:∃ R,R=Jh p:=⟨_,rfl⟩
 rw [← hR];unfold Jh at hR;by_cases h100:100<p.funs.length
 ·rw [if_pos h100] at hR;have hl:(100:Int)<(p.funs.length:Int):=by omega
  replace hR:=Zo8 hR;clear hcc hnm hco
  (repeat' (first | (simp only [↓ZF,ZG,ptrV,intV,Zo5,Zo7,reduceCtorEq,ZJ,Zo9,undef,WX,ZbL,ZaH, *]) | (refine ZM ?_) | (refine ZH fun zr zh=>?_; have zg:=zh; (try simp only [Zpb] at zg)) | (exact Zpa _) | (refine Zpi ?_ ?_) | (with_reducible refine And.intro ?_ ?_)))
  all_goals first
   | rw [hR.out]
   | (rename_i r3 n3 n3'; exact ((Zph n3).of_set n3'.2))
   | exact Zph zh
 ·rw [if_neg h100] at hR;have hl:¬ (100:Int)<(p.funs.length:Int):=by omega
  by_cases hcz:Zbx p.cons=0
  ·rw [if_pos hcz] at hR;rw [hcz] at hcc;have hct:=fun (t:Nat→VV) (B:AH) (r1:Nat) h=>Zmd (p:=p) (t:=t) (B:=B) (R:=R) (H0:=H0) (r1:=r1) hp h
   replace hp:=Zo8 hp;obtain ⟨R2,hR2⟩:∃ R2,R2=Ws p p.funs:=⟨_,rfl⟩
   rw [← hR2] at hR;replace hR:=Zo8 hR;replace hR2:=Zo8 hR2;clear hcz
   (repeat' (first | (simp only [↓ZF,ZG,ptrV,intV,Zo5,Zo7,reduceCtorEq,ZJ,Zo9,undef,XE,WX,Wr,ZbL,ZaH,en_77, *]) | (refine ZH fun zr zh=>?_; have zg:=zh; (try simp only [Zpb] at zg)) | (refine Zpe (hcc) ?_)))
   refine Za2 (fun t H=>SubH H0 H∧H zr=some (.cells 80 [cosV p.cons,fusV p.funs] 0)∧t 1=ptrV zr 0∧t 22=fusV p.funs∧t 23=iV p.funs.length∧t 24=iV 0)
    ⟨Zph zh,Zpc _ _ _,(by simp only [ZI,Zo5,if_true,if_false, *]<;>rfl),(by simp only [ZI,Zo5,if_true,if_false, *]<;>rfl),(by simp only [ZI,Zo5,if_true,if_false, *]<;>rfl),(by simp only [ZI,Zo5,if_true,if_false, *]<;>rfl)⟩ ?_
   clear zh zg hcc;rintro t B ⟨hs,k1,h1,h22,h23,h24⟩
   refine ZY (fun _ _ _ h=>h) (fun A H'=>SubH B H'∧A.d=[]∧A.t 1=ptrV zr 0∧A.t 22=fusV p.funs∧A.t 23=iV p.funs.length∧∃ i:Nat,i≤p.funs.length∧A.t 24=iV i∧R=JA R2 p (p.funs.drop i) i)
    (fun A _=>match A.t 24 with | .lit (.int _ i)=>((p.funs.length:Int)-i).toNat | _=>0) ?_ ?_
   ·exact ⟨Zpa _,rfl,h1,h22,h23,0,by omega,h24,hR.out⟩
   ·clear hR h1 h22 h23 h24;rintro ⟨t,d⟩ H' ⟨hb,rfl,h1,h22,h23,i,hi,h24,hR⟩;dsimp only at h1 h22 h23 h24;have q1:=hb _ _ k1;delta b58_1 Zn Zr Za Zk Zb Zi Zc Zg Zd Zo Zq Zf Zm Zp Ze;by_cases hlt:i<p.funs.length
    ·have hil:(i:Int)<(p.funs.length:Int):=by omega
     have hdi:=Jg hlt;have hni:=hnm i hlt;have hci:=hco p.funs[i].name;rw [ZgB hlt] at hR;replace hR:=Zo8 hR;clear hct k1 hnm hco
     (repeat' (first | (simp only [↓ZF,ZG,ptrV,intV,boolV,Zo5,Zo7,Zpd,ZpQ,reduceCtorEq,Yb,ZJ,setAt,Zo9,↓ZlV,↓ZlW,undef,YC,ZpS,Zps,Xj,idxV,idxOk,Nat.sub_zero,ZhC,XE,WX,Wq,Za9,Zdu,Ym,Wr,ZbL,Yg,Zgq,Zke,ZcR,ZaH,Zbj,Ze2,Zaw,Zd6, *]) | (refine Xu ?_ ?_<;>intro) | (refine ZgA ?_ ?_<;>intro) | (refine Yf ?_ ?_<;>intro) | (refine Yp ?_ ?_<;>intro) | (refine ZM ?_) | (refine ZR mixed (fun _ _ _ _ e h=>⟨e.trans h.1,h.2⟩) _ (Zpa _) ?_) | (refine ZH fun zr zh=>?_; have zg:=zh; (try simp only [Zpb] at zg); (try have zn_q1:=Zo6 q1 zh); (try have zn_q1:=Zo6 q1 zg.2); (try have zn_q1:=Zo6 q1 zg.2.2)) | (exact Zpa _) | (refine Zpi ?_ ?_) | (exact SubH.none (by assumption) (by assumption)) | (refine Zpe (hni) ?_) | (refine Zpe (hci) ?_) | (refine takeFu (by omega) (by omega) ?_) | (with_reducible refine And.intro ?_ ?_)))
     all_goals try rw [ZO (n:=(i:Int)+1) (by omega) (by omega)]
     all_goals first
      | exact hs.trans hb
      | exact hb.of_set (hb.none zh)
      | exact hs.none (hb.none zh)
      | exact fun h=>trivial
      | omega
      | (refine congrArg (fun z:Int=>VE.ret (iV z)) ?_
         rw [hR.out]; unfold ZbR; repeat' split
         all_goals first
          | rfl
          | omega
          | simp_all
          | (exfalso; simp_all; omega))
      | (refine ⟨i+1,by omega,rfl,?_⟩
         rw [hR.out]; unfold ZbR; repeat' split
         all_goals first
          | rfl
          | omega
          | simp_all
          | (exfalso; simp_all; omega))
      | trace_state
    ·have hil:¬ (i:Int)<(p.funs.length:Int):=by omega
     rw [ZpC (by omega)] at hR;have e:=Zo8 (show R=_ from (show R=R2 from hR).trans hR2.out);clear hR hR2
     (repeat' (first | (simp only [↓ZF,ZG,ptrV,Zo7, *])))
     exact hct _ _ _ e.out (by simp only [ZI,Zo5,if_false]; exact h1) q1 (hs.trans hb)
  ·rw [if_neg hcz] at hR;replace hR:=Zo8 hR;clear hnm hco
   (repeat' (first | (simp only [↓ZF,ZG,ptrV,intV,Zo5,Zo7,reduceCtorEq,ZJ,Zo9,undef,XE,WX,Wr,ZbL,ZaH,en_77, *]) | (refine ZM ?_) | (refine ZH fun zr zh=>?_; have zg:=zh; (try simp only [Zpb] at zg)) | (exact Zpa _) | (refine Zpi ?_ ?_) | (refine Zpe (hcc) ?_) | (with_reducible refine And.intro ?_ ?_)))
   all_goals first
    | rw [hR.out]
    | exact Zph zh
end Go.PV.Ytglpmlbbaedbiaa
end
section
open Bool renaming and_self→Zp3
open Go.PV.AH renaming set_ne→Zpg,set_same→Zpc,set_none→Zpb,get→Zpf,set_set→ZpA,ne_of→Zo6
open Go.PV.Hold renaming mk→Zo8
open Go.PV.SubH renaming new→Zph,refl→Zpa
open Int renaming toNat_natCast→ZpW
open List renaming getElem?_eq_getElem→ZpP,drop→Zo9,getElem_mem→Zpk,map_cons→Zpp,map_nil→Zpw,length_cons→Zpx,length_nil→Zp0,all_cons→ZpU,set_cons_zero→Zp5,set_cons_succ→Zp4,drop_zero→ZpV
open Nat renaming reduceEqDiff→Zo5,reduceLT→Zo7,reduceAdd→Zpd,reduceLeDiff→Zpo,succ_ne_self→Zpv,zero_add→Zpu,add_zero→ZpO,le_refl→Zpl
open Option renaming map_some→Zps
set_option maxRecDepth 20000
set_option maxHeartbeats 4000000
namespace Go.PV.Ytglpmlbbaedbiaa
open Go Go.Proofs
theorem JB:Zcw Try.prog 112 (.pointer none):=ZmS (kt:=9) (et:=156) (by kernel_rfl) (by kernel_rfl) (by kernel_rfl)
theorem Zde:Zcw Try.prog 113 (.int .i64 0):=ZmS (kt:=9) (et:=3) (by kernel_rfl) (by kernel_rfl) (by kernel_rfl)
def funMk (l:List Fu):Nat→ByteArray→Option VV
 | 0=>fun _=>none
 | k+1=>match l[k]? with | some f=>supd (funMk l k) f.name (.iptr ((encC fuE l).drop (k * 3))) | none=>funMk l k
def conMk (l:List Co):Nat→ByteArray→Option VV
 | 0=>fun _=>none
 | k+1=>match l[k]? with | some f=>supd (conMk l k) f.name (iV f.arity) | none=>conMk l k
theorem Zme {l:List Fu} {k:Nat} (h:k<l.length):funMk l (k+1)=supd (funMk l k) l[k].name (.iptr ((encC fuE l).drop (k * 3))):=by
 rw [funMk,ZpP h]
theorem Zmf {l:List Co} {k:Nat} (h:k<l.length):conMk l (k+1)=supd (conMk l k) l[k].name (iV l[k].arity):=by
 rw [conMk,ZpP h]
abbrev fmB (m:ByteArray→Option VV):Blk:=.map (Wp Try.prog 112) (smap m)
abbrev cmB (m:ByteArray→Option VV):Blk:=.map (Wp Try.prog 113) (smap m)
abbrev tabE (m1 m2:Nat):List VV:=[.lit (.map (some m1)),.lit (.map (some m2))]
def TabAt (H:AH) (v:VV) (p:Pr):Prop:=∃ m1 m2,v=.agg (tabE m1 m2)∧H m1=some (fmB (funMk p.funs p.funs.length))∧H m2=some (cmB (conMk p.cons p.cons.length))
theorem TabAt.mono {H H':AH} {v:VV} {p:Pr} (h:TabAt H v p) (hs:SubH H H'):TabAt H' v p:=by
 obtain ⟨m1,m2,h0,h1,h2⟩:=h;exact ⟨m1,m2,h0,hs _ _ h1,hs _ _ h2⟩
theorem Zop (t:TypeId) (H:AH) (K:VE→AH→Prop):ZaG Try.prog t H K=ZdC H fun r=>K (.ret (.lit (.map (some r)))) (H.set r (.map (Wp Try.prog t) (smap fun _=>none))):=by
 rw [← Zlm]; rfl
structure TInv (H0:AH) (r1 r2 r3 m1 m2:Nat) (p:Pr) (i k:Nat) (H:AH):Prop where
 sub:SubH H0 H
 b1:H r1=some (.cells 80 [cosV p.cons,fusV p.funs] 0)
 b2:∃ z1 z2,H r2=some (.cells 115 [z1,z2] 0)
 b3:H r3=some (.cells 115 (tabE m1 m2) 0)
 bm:H m1=some (fmB (funMk p.funs i))
 bc:H m2=some (cmB (conMk p.cons k))
theorem Jr {H:AH} {a b:Nat} {e:TypeId} {xs:List VV} {sp:Nat} {P:Value→Prop} {m:Value→Option VV} (h:H a=some (.cells e xs sp)) (h':H b=some (.map P m)):¬ a=b∧¬ b=a:=by
 refine ⟨fun e=>?_,fun e=>?_⟩<;>subst e<;>rw [h] at h'<;>cases h'
theorem TInv.setF {H0:AH} {r1 r2 r3 m1 m2:Nat} {p:Pr} {i k:Nat} {H:AH} (h:TInv H0 r1 r2 r3 m1 m2 p i k H) (g1:H0 m1=none) (hm:¬ m1=m2) (hi:i<p.funs.length) {cs:List VV} (hc:(encC fuE p.funs).drop (i * 3)=cs) :
 TInv H0 r1 r2 r3 m1 m2 p (i+1) k (H.set m1 (fmB (supd (funMk p.funs i) p.funs[i].name (.iptr cs)))):=by
 obtain ⟨z1,z2,b2⟩:=h.b2;refine ⟨h.sub.of_set g1,?_,⟨z1,z2,?_⟩,?_,?_,?_⟩
 ·rw [Zpg _ _ (Jr h.b1 h.bm).1]; exact h.b1
 ·rw [Zpg _ _ (Jr b2 h.bm).1]; exact b2
 ·rw [Zpg _ _ (Jr h.b3 h.bm).1]; exact h.b3
 ·rw [Zpc,Zme hi,hc]
 ·rw [Zpg _ _ (fun e=>hm e.symm)]; exact h.bc
theorem TInv.setC {H0:AH} {r1 r2 r3 m1 m2:Nat} {p:Pr} {i k:Nat} {H:AH} (h:TInv H0 r1 r2 r3 m1 m2 p i k H) (g2:H0 m2=none) (hm:¬ m1=m2) (hk:k<p.cons.length) :
 TInv H0 r1 r2 r3 m1 m2 p i (k+1) (H.set m2 (cmB (supd (conMk p.cons k) p.cons[k].name (iV p.cons[k].arity)))):=by
 obtain ⟨z1,z2,b2⟩:=h.b2;refine ⟨h.sub.of_set g2,?_,⟨z1,z2,?_⟩,?_,?_,?_⟩
 ·rw [Zpg _ _ (Jr h.b1 h.bc).1]; exact h.b1
 ·rw [Zpg _ _ (Jr b2 h.bc).1]; exact b2
 ·rw [Zpg _ _ (Jr h.b3 h.bc).1]; exact h.b3
 ·rw [Zpg _ _ hm]; exact h.bm
 ·rw [Zpc,Zmf hk]
theorem TInv.alloc {H0:AH} {r1 r2 r3 m1 m2:Nat} {p:Pr} {i k:Nat} {H:AH} (h:TInv H0 r1 r2 r3 m1 m2 p i k H) {z:Nat} (hz:H z=none) (b:Blk):TInv H0 r1 r2 r3 m1 m2 p i k (H.set z b):=by
 obtain ⟨z1,z2,b2⟩:=h.b2;have s:=Zph (b:=b) hz;exact ⟨h.sub.trans s,s _ _ h.b1,⟨z1,z2,s _ _ b2⟩,s _ _ h.b3,s _ _ h.bm,s _ _ h.bc⟩
theorem Zoq {p:Pr} (hpc:p.cons.length≤1099511627776) (hpf:p.funs.length≤1099511627776) (hnc:∀ c∈p.cons,c.name.size≤maxLen) (hnf:∀ f∈p.funs,f.name.size≤maxLen) {H0:AH} {K:VE→AH→Prop} (hK:∀ v H',SubH H0 H'→TabAt H' v p→K (.ret v) H') :
 ZU Try.prog 59 [prV p] H0 K:=by
 refine ZK fd59 (by simp) ?_;delta c59 Zj Zi Zq Zr Zg Zd Zb Ze;replace hK:=Zo8 hK
 (repeat' (first | (simp only [↓ZF,ZG,↓ZiM,ptrV,intV,Zo5,Zo7,Zpd,Zpo,reduceCtorEq,ZJ,ZQ,fillV,setAt,Zo9,cl_map,undef,Zop,ZQ,WX,ZbL,WD,ZgK,Xz,ZaH, *]) | (refine ZH fun zr zh=>?_; have zg:=zh; (try simp only [Zpb] at zg))))
 rename_i r1 n1 n1' r2 n2 n2' m1 k1 k1' m2 k2 k2';have hm12:¬ m1=m2:=k2'.1.2;have g1:=k1'.2.2;have g2:=k2'.2.2.2;have g3:=n2'.2
 refine Za2 (fun t H=>TInv H0 r1 r2 zr m1 m2 p 0 0 H∧t 1=ptrV r1 0∧t 2=ptrV r2 0∧t 3=ptrV zr 0∧t 11=fusV p.funs∧t 12=iV p.funs.length∧t 13=iV 0)
  ⟨⟨((((Zph n1).of_set n2'.2).of_set g1).of_set g2).of_set zg.2.2.2.2,(by simp only [Zpf, *,if_true,if_false]<;>rfl),⟨_,_,(by simp only [Zpf, *,if_true,if_false]<;>rfl)⟩,Zpc _ _ _,(by simp only [Zpf, *,if_true,if_false]<;>rfl),(by simp only [Zpf, *,if_true,if_false]<;>rfl)⟩,(by simp only [ZI,Zo5,if_true,if_false, *]<;>rfl),(by simp only [ZI,Zo5,if_true,if_false, *]<;>rfl),(by simp only [ZI,Zo5,if_true,if_false, *]<;>rfl),(by simp only [ZI,Zo5,if_true,if_false, *]<;>rfl),(by simp only [ZI,Zo5,if_true,if_false, *]<;>rfl),(by simp only [ZI,Zo5,if_true,if_false, *]<;>rfl)⟩ ?_
 clear n1 n1' n2 n2' k1 k1' k2 k2' zh zg;generalize zr=r3;rintro t B ⟨hI,h1,h2,h3,h11,h12,h13⟩
 refine ZY (fun _ _ _ h=>h) (fun A H'=>A.d=[]∧A.t 1=ptrV r1 0∧A.t 2=ptrV r2 0∧A.t 3=ptrV r3 0∧A.t 11=fusV p.funs∧A.t 12=iV p.funs.length∧∃ i:Nat,i≤p.funs.length∧A.t 13=iV i∧TInv H0 r1 r2 r3 m1 m2 p i 0 H')
  (fun A _=>match A.t 13 with | .lit (.int _ i)=>((p.funs.length:Int)-i).toNat | _=>0) ?_ ?_
 ·exact ⟨rfl,h1,h2,h3,h11,h12,0,by omega,h13,hI⟩
 ·clear hI h1 h2 h3 h11 h12 h13;rintro ⟨t,d⟩ H' ⟨rfl,h1,h2,h3,h11,h12,i,hi,h13,hI⟩;dsimp only at h1 h2 h3 h11 h12 h13;delta b59_1 Zn Zr Za Zc Zd Zb Zk Zm;have q1:=hI.b1;have q3:=hI.b3;have qm:=hI.bm;replace hI:=Zo8 hI;by_cases hlt:i<p.funs.length
  ·have hil:(i:Int)<(p.funs.length:Int):=by omega
   have hdi:=Jg hlt;have hzi:=hnf _ (Zpk hlt);clear hnc hnf
   (repeat' (first | (refine ZfO JB hzi qm ?_) | (simp only [↓Wj,↓Xx,↓Xy,↓Xm,↓Xc,↓YS,↓WO,↓XA,↓Yo,↓Ys,↓Zb9,↓YJ,↓YG,↓WP,↓YH,↓WQ,↓YI,↓YT,↓ZI,↓YV,↓YB,↓YR,↓Wc,↓Yj,↓Xv,↓ZcH,↓XW,↓ZaL,ptrV,ite_true,ite_false,Zo5,Zo7,ne_eq,not_false_eq_true,true_and,Zpv,decide_true,Int.natCast_nonneg,ZpW,↓Wv,↓XR,eq_self,Zpu,ZpO,Zo9,and_self,We,Zbc,Wf,ZgV,Jo,Zeb,Zbo,Wg,Zbd,XF,Jj,↓Zay,Ja,WX,ZhC,ZaS,ZbL,Ym,ZaH, *]) | (refine ZR mixed (fun _ _ _ _ e h=>⟨e.trans h.1,h.2⟩) _ (Zpa _) ?_) | (with_reducible refine And.intro ?_ ?_)))
   all_goals rw [ZO (n:=(i:Int)+1) (by omega) (by omega)]
   ·exact ⟨i+1,by omega,rfl,hI.out.setF g1 hm12 hlt hdi⟩
   ·omega
  ·have hil:¬ (i:Int)<(p.funs.length:Int):=by omega
   have hie:i=p.funs.length:=by omega
   subst hie;clear hil
   (repeat' (first | (simp only [↓ZF,ZG,ptrV,Zo7, *])))
   delta c59_2 Zd Zb Ze Zq;refine Ya rfl (fun _ _ _ h=>h) ?_
   (repeat' (first | (simp only [↓ZF,ZG,ptrV,intV,Zo5,Zo7,reduceCtorEq,Zo9,XE,Wr,Zar, *])))
   refine ZY (fun _ _ _ h=>h) (fun A H'=>A.d=[]∧A.t 1=ptrV r1 0∧A.t 2=ptrV r2 0∧A.t 3=ptrV r3 0∧A.t 30=cosV p.cons∧A.t 31=iV p.cons.length∧∃ k:Nat,k≤p.cons.length∧A.t 32=iV k∧TInv H0 r1 r2 r3 m1 m2 p p.funs.length k H')
    (fun A _=>match A.t 32 with | .lit (.int _ k)=>((p.cons.length:Int)-k).toNat | _=>0) ?_ ?_
   ·exact ⟨rfl,(by simp only [ZI,Zo5,if_false, *]<;>rfl),(by simp only [ZI,Zo5,if_false, *]<;>rfl),(by simp only [ZI,Zo5,if_false, *]<;>rfl),(by simp only [ZI,Zo5,if_true,if_false, *]<;>rfl),(by simp only [ZI,Zo5,if_true,if_false, *]<;>rfl),0,by omega,(by simp only [ZI,Zo5,if_true,if_false, *]<;>rfl),hI.out⟩
   ·clear hI h1 h2 h3 h11 h12 h13 q1 q3 qm;rintro ⟨t,d⟩ H' ⟨rfl,h1,h2,h3,h30,h31,k,hk,h32,hI⟩;dsimp only at h1 h2 h3 h30 h31 h32;delta b59_2 Zn Zr Zk Zb Zi Zg Zd Zm Za;by_cases hkt:k<p.cons.length
    ·have hkl:(k:Int)<(p.cons.length:Int):=by omega
     have hdk:=ZdF hkt;have hzk:=hnc _ (Zpk hkt);have q1:=hI.b1;have q3:=hI.b3;have qm:=fun z b hz=>(hI.alloc (z:=z) hz b).bc
     replace hI:=Zo8 hI;clear hnc hnf
     (repeat' (first | (refine ZfO Zde hzk (qm _ _ (by assumption)) ?_) | (simp only [↓Wj,↓Xx,↓Xy,↓Xm,↓Xc,↓YS,↓XA,↓Yo,↓Ys,↓Zb9,↓YJ,↓YG,↓WP,↓YH,↓WQ,↓YI,↓YT,↓ZI,↓YV,↓YR,↓Wu,↓Wc,↓XQ,↓Yj,↓Xv,↓ZcH,↓XW,↓ZaL,ptrV,Zpp,Zpw,Zpx,Zp0,ite_true,ite_false,Zo5,Zo7,Zpd,ne_eq,not_false_eq_true,true_and,Zpv,decide_true,Int.natCast_nonneg,ZpW,Zpf,ZpA,setAt,ZpU,List.all_nil,Zp3,eq_self,Zpu,ZpO,Zo9,and_self,We,Zkl,JH,JS,Xw,Zp5,Zp4,↓XS,Xt,Zpl,Zbc,Wf,Jo,Zeb,Zbo,Wg,Zbd,XF,Jj,Zbe,Zbf,Zc8,ZhD,ZbM,Ym,ZmL,ZgM,Yg,szT_91,Ze1,Zar, *]) | (refine ZH fun zr zh=>?_; have zg:=zh; (try simp only [Zpb] at zg); (try have zn_q1:=Zo6 q1 zh); (try have zn_q1:=Zo6 q1 zg.2); (try have zn_q1:=Zo6 q1 zg.2.2); (try have zn_q3:=Zo6 q3 zh); (try have zn_q3:=Zo6 q3 zg.2); (try have zn_q3:=Zo6 q3 zg.2.2)) | (with_reducible refine And.intro ?_ ?_)))
     all_goals rw [ZO (n:=(k:Int)+1) (by omega) (by omega)]
     ·exact ⟨k+1,by omega,rfl,(hI.out.alloc zh _).setC g2 hm12 hkt⟩
     ·omega
    ·have hkl:¬ (k:Int)<(p.cons.length:Int):=by omega
     have hke:k=p.cons.length:=by omega
     subst hke;clear hkl
     (repeat' (first | (simp only [↓ZF,ZG,ptrV,Zo7, *]) | (refine Ya rfl (fun _ _ _ h=>h) ?_)))
     delta c59_1 Zb Zg;obtain ⟨z1,z2,q2⟩:=hI.b2;have q3:=hI.b3;replace hI:=Zo8 hI
     (repeat' (first | (simp only [↓ZF,ZG,ptrV,Zo5,Zo7,Zpd,setAt,Zo9,WJ,WD, *])))
     refine YD (x:=.agg (tabE m1 m2)) rfl ?_ (hK.out _ _ (hI.out.sub.of_set g3) ⟨m1,m2,rfl,?_,?_⟩)
     ·simp only [resV,Xi,Xh,WJ,ZI,Zo5,if_false,h2,Zpc,ptrV,ZpV,Zps]; rfl
     ·rw [Zpg _ _ (Jr q2 hI.out.bm).2]; exact hI.out.bm
     ·rw [Zpg _ _ (Jr q2 hI.out.bc).2]; exact hI.out.bc
end Go.PV.Ytglpmlbbaedbiaa
end
section
open Bool renaming false_eq_true→ZpT
open Go.PV.AH renaming set_none→Zpb,ne_of→Zo6,get→Zpf,set_same→Zpc,set_ne→Zpg
open Go.PV.Hold renaming mk→Zo8
open Go.PV.PureF renaming use→Zpe
open Go.PV.SubH renaming refl→Zpa,of_set→Zpi,new→Zph
open Int renaming reduceEq→ZpE,toNat_natCast→ZpW
open List renaming getElem?_eq_getElem→ZpP,getElem_mem→Zpk,drop_eq_getElem_cons→ZpI,drop→Zo9,drop_eq_nil_of_le→ZpC,map_cons→Zpp,map_nil→Zpw,getD_cons_zero→ZpN,getD_cons_succ→ZpK,getD_nil→ZpL,getElem?_cons_zero→Zqa,getElem?_cons_succ→Zqb
open Nat renaming reduceEqDiff→Zo5,reduceLT→Zo7,reduceAdd→Zpd,succ_ne_self→Zpv,zero_add→Zpu,add_zero→ZpO,reduceLeDiff→Zpo
open Option renaming map_none→ZpS,map_some→Zps
set_option maxRecDepth 20000
set_option maxHeartbeats 4000000
namespace Go.PV.Ytglpmlbbaedbiaa
open Go Go.Proofs
section
variable {P:Program} {t:TypeId} {z:Value} {H:AH} {K:VE→AH→Prop} {r:Nat} {m:ByteArray→Option VV} {s:ByteArray}
theorem Zcy {ok:Bool} {y:VV} (h:Zcw P t z) (hz:s.size≤maxLen) (hm:m s=some y) (hr:H r=some (.map (Wp P t) (smap m))) (hk:K (.ret (okV ok y true)) H):Zaj P t (.lit (.map (some r))) (.lit (.string s)) ok H K :=
 ZfN h hz hr (fun y' h'=>by rw [hm] at h'; cases h'; exact hk) (fun h'=>by rw [hm] at h'; cases h')
theorem ZnH {ok:Bool} (h:Zcw P t z) (hz:s.size≤maxLen) (hm:m s=none) (hr:H r=some (.map (Wp P t) (smap m))) (hk:K (.ret (okV ok (.lit z) false)) H):Zaj P t (.lit (.map (some r))) (.lit (.string s)) ok H K :=
 ZfN h hz hr (fun y' h'=>by rw [hm] at h'; cases h') (fun h'=>hk)
end
theorem Zei {l:List Fu} {s:ByteArray}:∀ {k:Nat},(∀ j (h:j<l.length),j<k→¬ l[j].name=s)→funMk l k s=none
 | 0,_=>rfl
 | k+1,h=>by
   rw [funMk];cases hk:l[k]? with
   | none=>exact Zei fun j h1 h2=>h j h1 (by omega)
   | some f =>
     obtain ⟨h1,rfl⟩:=List.getElem?_eq_some_iff.1 hk;show (if s=_ then _ else _)=none;rw [if_neg (fun e=>h k h1 (by omega) e.symm)];exact Zei fun j h1 h2=>h j h1 (by omega)
theorem Zej {l:List Fu} {s:ByteArray} {j:Nat} (hj:j<l.length) (hs:l[j].name=s):∀ {k:Nat},j<k→(∀ i (h:i<l.length),j<i→¬ l[i].name=s)→funMk l k s=some (.iptr ((encC fuE l).drop (j * 3)))
 | k+1,hjk,h=>by
   rw [funMk];by_cases e:j=k
   ·subst e;rw [ZpP hj];show (if s=_ then _ else _)=_;rw [if_pos hs.symm]
   ·cases hk:l[k]? with
    | none=>exact Zej hj hs (by omega) h
    | some f =>
      obtain ⟨h1,rfl⟩:=List.getElem?_eq_some_iff.1 hk;show (if s=_ then _ else _)=_;rw [if_neg (fun e=>h k h1 (by omega) e.symm)];exact Zej hj hs (by omega) h
theorem Zek {l:List Co} {s:ByteArray}:∀ {k:Nat},(∀ j (h:j<l.length),j<k→¬ l[j].name=s)→conMk l k s=none
 | 0,_=>rfl
 | k+1,h=>by
   rw [conMk];cases hk:l[k]? with
   | none=>exact Zek fun j h1 h2=>h j h1 (by omega)
   | some f =>
     obtain ⟨h1,rfl⟩:=List.getElem?_eq_some_iff.1 hk;show (if s=_ then _ else _)=none;rw [if_neg (fun e=>h k h1 (by omega) e.symm)];exact Zek fun j h1 h2=>h j h1 (by omega)
theorem Zel {l:List Co} {s:ByteArray} {j:Nat} (hj:j<l.length) (hs:l[j].name=s):∀ {k:Nat},j<k→(∀ i (h:i<l.length),j<i→¬ l[i].name=s)→conMk l k s=some (iV l[j].arity)
 | k+1,hjk,h=>by
   rw [conMk];by_cases e:j=k
   ·subst e;rw [ZpP hj];show (if s=_ then _ else _)=_;rw [if_pos hs.symm]
   ·cases hk:l[k]? with
    | none=>exact Zel hj hs (by omega) h
    | some f =>
      obtain ⟨h1,rfl⟩:=List.getElem?_eq_some_iff.1 hk;show (if s=_ then _ else _)=_;rw [if_neg (fun e=>h k h1 (by omega) e.symm)];exact Zel hj hs (by omega) h
theorem Zlr {α:Type} {f:α→ByteArray} {l:List α} (h:(l.map f).Nodup) {i j:Nat} (hi:i<l.length) (hj:j<l.length) (hij:¬ i=j):¬ f l[i]=f l[j]:=fun e=>by
 have hp:=List.pairwise_iff_getElem.1 h;rcases Nat.lt_or_gt_of_ne hij with h1 | h1
 ·have:=hp i j (by simpa using hi) (by simpa using hj) h1
  simp only [List.getElem_map] at this;exact this e
 ·have:=hp j i (by simpa using hj) (by simpa using hi) h1
  simp only [List.getElem_map] at this;exact this e.symm
structure NdP (p:Pr):Prop where
 funs:(p.funs.map (·.name)).Nodup
 cons:(p.cons.map (·.name)).Nodup
theorem ZhJ {l:List Fu} (h:(l.map (·.name)).Nodup) (s:ByteArray):(atFu l s = -1∧funMk l l.length s=none)∨∃ j,∃ hj:j<l.length,atFu l s=j∧l[j].name=s∧funMk l l.length s=some (.iptr ((encC fuE l).drop (j * 3))):=by
 rcases WA (fun c:Fu=>decide (c.name=s)) l with ⟨h1,h2⟩ | ⟨j,hj,h1,h2,h3⟩
 ·refine .inl ⟨h1,Zei fun j hj _ e=>?_⟩
  have:=h2 _ (Zpk hj)
  simp [e] at this
 ·have hs:l[j].name=s:=by simpa using h2
  exact .inr ⟨j,hj,h1,hs,Zej hj hs hj fun i hi hij e=>Zlr h hi hj (by omega) (e.trans hs.symm)⟩
theorem conMk_at {l:List Co} (h:(l.map (·.name)).Nodup) (s:ByteArray):(atCo l s = -1∧conMk l l.length s=none)∨∃ j,∃ hj:j<l.length,atCo l s=j∧l[j].name=s∧conMk l l.length s=some (iV l[j].arity):=by
 rcases WA (fun c:Co=>decide (c.name=s)) l with ⟨h1,h2⟩ | ⟨j,hj,h1,h2,h3⟩
 ·refine .inl ⟨h1,Zek fun j hj _ e=>?_⟩
  have:=h2 _ (Zpk hj)
  simp [e] at this
 ·have hs:l[j].name=s:=by simpa using h2
  exact .inr ⟨j,hj,h1,hs,Zel hj hs hj fun i hi hij e=>Zlr h hi hj (by omega) (e.trans hs.symm)⟩
def formB (op nk:Int) (nm:Bool):Bool :=
 if op=1∨op=2 then !decide (0<nk) && nm else if op=5 then decide (nk=1) && nm else if op=4 then !decide (nk<2) && !nm else if op=3 then nm else false
def sdOwn (p:Pr) (e:Ex) (bound:List ByteArray):Int :=
 if formB e.op e.kids.length (!decide (e.name={ data:=#[] }))=false then 2 else
 if e.op=2∧atFu p.funs e.name<0 then 9 else
 if e.op=3∧atCo p.cons e.name<0 then 9 else
 if e.op=3∧¬ (e.kids.length:Int)=arCo p.cons e.name then 5 else
 if e.op=1∧hasF bound e.name=false then 422 else 0
mutual
def Ex.sdF (p:Pr):Ex→List ByteArray→Int
 | .mk op n ks,nm=>if sdOwn p (.mk op n ks) nm=0 then sdsF p ks (if op=5 then nm++[n] else nm) else sdOwn p (.mk op n ks) nm
def sdsF (p:Pr):List Ex→List ByteArray→Int
 | [],_=>0
 | k::ks,nm=>if k.sdF p nm=0 then sdsF p ks nm else k.sdF p nm
end
theorem Ex.sdF_eq (p:Pr) (e:Ex) (nm:List ByteArray):e.sdF p nm=if sdOwn p e nm=0 then sdsF p e.kids (if e.op=5 then nm++[e.name] else nm) else sdOwn p e nm:=by
 cases e; rw [Ex.sdF]; rfl
theorem Zor {p:Pr} {l:List Ex} {nm:List ByteArray} {i:Nat} (h:i<l.length):sdsF p (l.drop i) nm=if l[i].sdF p nm=0 then sdsF p (l.drop (i+1)) nm else l[i].sdF p nm:=by
 rw [ZpI h,sdsF]
def sdQ (H0:AH) (R:Int):APost:=YP Try.prog [.tmp 6] fun e H'=>e=.ret (iV R)∧SubH H0 H'
theorem Zft {p:Pr} {ks:List Ex} {nm:List ByteArray} {t:Nat→VV} {H0 B:AH} {m1 m2 r3:Nat} {R:Int} (hN:ks.length≤1099511627776)
 (ih:∀ i (h:i<ks.length) (H:AH),TabAt H (.agg (tabE m1 m2)) p→ReadF Try.prog 60 [.agg (tabE m1 m2),exV ks[i],strsV nm] (iV (ks[i].sdF p nm)) H) (hR:R=sdsF p ks nm) (h2:t 2=strsV nm) (hv:TabAt B (.agg (tabE m1 m2)) p) (h3:t 3=ptrV r3 0)
 (k3:B r3=some (.cells 115 (tabE m1 m2) 0)) (h95:t 95=exsV ks) (h96:t 96=iV ks.length) (h97:t 97=iV 0) (hs:SubH H0 B) :
 ACx ⟨Try.prog,109,none⟩ (.loop b60_1) (Xf 2 (thenA (ACx ⟨Try.prog,109,none⟩ c60_1 (sdQ H0 R)) (sdQ H0 R))) ⟨t,[]⟩ B:=by
 refine ZY (fun _ _ _ h=>h) (fun A H'=>SubH B H'∧A.d=[]∧A.t 2=strsV nm∧A.t 3=ptrV r3 0∧A.t 95=exsV ks∧A.t 96=iV ks.length∧∃ i:Nat,i≤ks.length∧A.t 97=iV i∧R=sdsF p (ks.drop i) nm)
  (fun A _=>match A.t 97 with | .lit (.int _ i)=>((ks.length:Int)-i).toNat | _=>0) ?_ ?_
 ·exact ⟨Zpa _,rfl,h2,h3,h95,h96,0,by omega,h97,hR⟩
 ·clear hR h2 h3 h95 h96 h97;rintro ⟨t,d⟩ H' ⟨hb,rfl,h2,h3,h95,h96,i,hi,h97,hR⟩;dsimp only at h2 h3 h95 h96 h97;delta b60_1 Zn Zr Zk Zb Zi Zg Za Zo Zc Zm;have q3:=hb _ _ k3;by_cases hlt:i<ks.length
  ·have hil:(i:Int)<(ks.length:Int):=by omega
   have hdi:=WL hlt;rw [Zor hlt] at hR;replace hR:=Zo8 hR;have rd:=fun H2 (h:SubH B H2)=>ih i hlt H2 (hv.mono h)
   clear ih k3
   (repeat' (first | (simp only [↓ZF,ZG,ptrV,Zo5,Zo7,Zpd,setAt,Zo9,Ye,WJ,YE,Yc,ZZ,en_60, *]) | (refine Yp ?_ ?_<;>intro) | (refine ZM ?_) | (refine ZH fun zr zh=>?_; have zg:=zh; (try simp only [Zpb] at zg); (try have zn_q3:=Zo6 q3 zh); (try have zn_q3:=Zo6 q3 zg.2); (try have zn_q3:=Zo6 q3 zg.2.2)) | (refine Zpi ?_ ?_) | (exact SubH.none (by assumption) (by assumption)) | (refine (rd _ ?_).use ?_) | (with_reducible refine And.intro ?_ ?_)))
   all_goals try rw [ZO (n:=(i:Int)+1) (by omega) (by omega)]
   all_goals first
    | omega
    | exact hs.trans hb
    | exact hb
    | exact hb.of_set (hb.none zh)
    | exact hs.none (hb.none zh)
    | (have hne:(!decide (Ex.sdF p ks[i] nm=0))=true:=by assumption
       rw [hR.out,if_neg (by simpa using hne)])
    | (have hne:(!decide (Ex.sdF p ks[i] nm=0))=false:=by assumption
       exact ⟨i+1,by omega,rfl,by rw [hR.out,if_pos (by simpa using hne)]⟩)
  ·have hil:¬ (i:Int)<(ks.length:Int):=by omega
   rw [ZpC (by omega)] at hR;have hR:R=0:=hR;subst hR
   (repeat' (first | (simp only [↓ZF,ZG,ptrV,Zo7, *]) | (refine Ya rfl (fun _ _ _ h=>h) ?_)))
   delta c60_1 Zf
   (repeat' (first | (simp only [↓ZF,ZG,Zo5,Zo7, *]) | (refine ZM ?_)))
   exact hs.trans hb
theorem eq_funP {ox:Operand} {c:Value} {a:Option Addr} {H:AH} {K:VE→AH→Prop}:vcBin Try.prog .eql 156 ox (.const c) (.lit (.pointer a)) nilP H K=K (.ret (boolV a.isNone)) H:=eq_ptr (e:=40) (by kernel_rfl)
theorem eq_funI {ox:Operand} {c:Value} {cs:List VV} {H:AH} {K:VE→AH→Prop}:vcBin Try.prog .eql 156 ox (.const c) (.iptr cs) nilP H K=K (.ret (boolV false)) H:=eq_iptr (e:=40) (by kernel_rfl)
theorem sd_node {p:Pr} {op nk:Int} {name:ByteArray} {kids:List Ex} {nb hb:Bool} {bound:List ByteArray} {m1 m2:Nat} {H:AH} {R:Int} (hN:kids.length≤1099511627776) (hbl:bound.length≤1099511627776) (hz:name.size≤maxLen) (hnk:(kids.length:Int)=nk)
 (ih:∀ (nm':List ByteArray),nm'.length≤bound.length+1→∀ i (h:i<kids.length) (H:AH),TabAt H (.agg (tabE m1 m2)) p→ReadF Try.prog 60 [.agg (tabE m1 m2),exV kids[i],strsV nm'] (iV (kids[i].sdF p nm')) H)
 (hm1:H m1=some (fmB (funMk p.funs p.funs.length))) (hm2:H m2=some (cmB (conMk p.cons p.cons.length)))
 (hfa:(atFu p.funs name = -1∧funMk p.funs p.funs.length name=none)∨∃ j,∃ hj:j<p.funs.length,atFu p.funs name=j∧p.funs[j].name=name∧funMk p.funs p.funs.length name=some (.iptr ((encC fuE p.funs).drop (j * 3))))
 (hca:(atCo p.cons name = -1∧conMk p.cons p.cons.length name=none)∨∃ j,∃ hj:j<p.cons.length,atCo p.cons name=j∧p.cons[j].name=name∧conMk p.cons p.cons.length name=some (iV p.cons[j].arity))
 (hhas:PureF Try.prog 82 [strsV bound,sV name] (boolV hb))
 (o:Int) (ho:o=if formB op nk (!decide (name={ data:=#[] }))=false then 2 else if op=2∧atFu p.funs name<0 then 9 else if op=3∧atCo p.cons name<0 then 9 else if op=3∧¬ nk=arCo p.cons name then 5 else if op=1∧hb=false then 422 else 0)
 (hR:R=if o=0 then sdsF p kids (if op=5 then bound++[name] else bound) else o):ReadF Try.prog 60 [.agg (tabE m1 m2),.agg [iV op,sV name,encS exE kids],strsV bound] (iV R) H:=by
 refine ZK fd60 (by simp) ?_;delta c60 Zj Zf Zd Zb Ze Zq Zr Zc Zm Za Zp Zh Zn Zo Zl;unfold formB at ho;unfold arCo at ho;by_cases h1:op=1
 ·subst h1;by_cases hn:name={ data:=#[] }
  ·have hR':=Zo8 (show (2:Int)=R by rw [hR,ho]; simp [hn]);clear hR ho ih
   (repeat' (first | (simp only [↓ZF,ZG,↓XZ,ptrV,intV,Zo5,Zo7,reduceCtorEq,Yb,ZJ,Zo9,undef,ZW,Yd,ZT,Yk,Ym,Yg,ZZ, *]) | (refine Xu ?_ ?_<;>intro) | (refine ZM ?_) | (refine ZR mixed (fun _ _ _ _ e h=>⟨e.trans h.1,h.2⟩) _ (Zpa _) ?_) | (refine ZH fun zr zh=>?_; have zg:=zh; (try simp only [Zpb] at zg); (try have zn_hm1:=Zo6 hm1 zh); (try have zn_hm1:=Zo6 hm1 zg.2); (try have zn_hm1:=Zo6 hm1 zg.2.2); (try have zn_hm2:=Zo6 hm2 zh); (try have zn_hm2:=Zo6 hm2 zg.2); (try have zn_hm2:=Zo6 hm2 zg.2.2)) | (exact Zpa _) | (refine Zpi ?_ ?_) | (with_reducible refine And.intro ?_ ?_)))
   all_goals first
    | rw [hR'.out]
    | (rename_i r3 n3 n3' w1 w2; exact (Zph n3).of_set zg.2)
  ·by_cases hk:0<nk
   ·have hR':=Zo8 (show (2:Int)=R by rw [hR,ho]; simp [hk]);clear hR ho ih
    (repeat' (first | (simp only [↓ZF,ZG,↓XZ,ptrV,intV,Zo5,Zo7,reduceCtorEq,Yb,ZJ,Zo9,undef,ZW,Yd,ZT,Yk,Ym,Yg,ZZ, *]) | (refine ZM ?_) | (refine ZR mixed (fun _ _ _ _ e h=>⟨e.trans h.1,h.2⟩) _ (Zpa _) ?_) | (refine ZH fun zr zh=>?_; have zg:=zh; (try simp only [Zpb] at zg); (try have zn_hm1:=Zo6 hm1 zh); (try have zn_hm1:=Zo6 hm1 zg.2); (try have zn_hm1:=Zo6 hm1 zg.2.2); (try have zn_hm2:=Zo6 hm2 zh); (try have zn_hm2:=Zo6 hm2 zg.2); (try have zn_hm2:=Zo6 hm2 zg.2.2)) | (exact Zpa _) | (refine Zpi ?_ ?_) | (with_reducible refine And.intro ?_ ?_)))
    all_goals first
     | rw [hR'.out]
     | (rename_i r3 n3 n3' w1 w2; exact (Zph n3).of_set zg.2)
   ·cases hb with
    | false =>
      have hR':=Zo8 (show (422:Int)=R by rw [hR,ho]; simp [hn,hk]);clear hR ho ih
      (repeat' (first | (simp only [↓ZF,ZG,↓XZ,ptrV,intV,boolV,Zo5,Zo7,reduceCtorEq,ZJ,Zo9,undef,ZpE,ZW,Yd,ZT,Yk,Ym,Yg,ZZ,ZoT, *]) | (refine ZM ?_) | (refine ZR mixed (fun _ _ _ _ e h=>⟨e.trans h.1,h.2⟩) _ (Zpa _) ?_) | (refine ZH fun zr zh=>?_; have zg:=zh; (try simp only [Zpb] at zg); (try have zn_hm1:=Zo6 hm1 zh); (try have zn_hm1:=Zo6 hm1 zg.2); (try have zn_hm1:=Zo6 hm1 zg.2.2); (try have zn_hm2:=Zo6 hm2 zh); (try have zn_hm2:=Zo6 hm2 zg.2); (try have zn_hm2:=Zo6 hm2 zg.2.2)) | (exact Zpa _) | (refine Zpi ?_ ?_) | (refine Zpe (hhas) ?_) | (with_reducible refine And.intro ?_ ?_)))
      all_goals first
       | rw [hR'.out]
       | (rename_i r3 n3 n3' w1 w2; exact (Zph n3).of_set zg.2)
    | true =>
      have hR':=Zo8 (show R=sdsF p kids bound by rw [hR,ho]; simp [hn,hk]);clear hR ho
      (repeat' (first | (simp only [↓ZF,ZG,↓XZ,ptrV,intV,boolV,Zo5,Zo7,reduceCtorEq,ZJ,Zo9,undef,ZpE,ZW,Yd,ZT,Yk,Ym,Yg,ZZ,ZoT, *]) | (refine ZR mixed (fun _ _ _ _ e h=>⟨e.trans h.1,h.2⟩) _ (Zpa _) ?_) | (refine ZH fun zr zh=>?_; have zg:=zh; (try simp only [Zpb] at zg); (try have zn_hm1:=Zo6 hm1 zh); (try have zn_hm1:=Zo6 hm1 zg.2); (try have zn_hm1:=Zo6 hm1 zg.2.2); (try have zn_hm2:=Zo6 hm2 zh); (try have zn_hm2:=Zo6 hm2 zg.2); (try have zn_hm2:=Zo6 hm2 zg.2.2)) | (refine Zpe (hhas) ?_)))
      rename_i r3 n3 n3' w1 w2;have hsr:∀ b1 b2,SubH H ((H.set r3 b1).set zr b2):=fun _ _=>(Zph n3).of_set zg.2
      refine Zft (ks:=kids) (nm:=bound) (r3:=r3) hN (fun i h H=>ih _ (by omega) i h H) hR'.out (by simp only [ZI,Zo5,if_false, *]<;>rfl) ⟨m1,m2,rfl,hsr _ _ _ _ hm1,hsr _ _ _ _ hm2⟩ (by simp only [ZI,Zo5,if_true,if_false, *]<;>rfl) (by simp only [Zpf, *,if_true,if_false]<;>rfl) (by simp only [ZI,Zo5,if_true,if_false, *]<;>rfl) (by simp only [ZI,Zo5,if_true,if_false, *]<;>rfl) (by simp only [ZI,Zo5,if_true,if_false, *]<;>rfl) (hsr _ _)
 ·by_cases h2:op=2
  ·subst h2;by_cases hn:name={ data:=#[] }
   ·have hR':=Zo8 (show (2:Int)=R by rw [hR,ho]; simp [hn]);clear hR ho ih
    (repeat' (first | (simp only [↓ZF,ZG,↓XZ,ptrV,intV,Zo5,Zo7,reduceCtorEq,Yb,ZJ,Zo9,undef,ZW,Yd,ZT,Yk,Ym,Yg,ZZ, *]) | (refine Xu ?_ ?_<;>intro) | (refine ZM ?_) | (refine ZR mixed (fun _ _ _ _ e h=>⟨e.trans h.1,h.2⟩) _ (Zpa _) ?_) | (refine ZH fun zr zh=>?_; have zg:=zh; (try simp only [Zpb] at zg); (try have zn_hm1:=Zo6 hm1 zh); (try have zn_hm1:=Zo6 hm1 zg.2); (try have zn_hm1:=Zo6 hm1 zg.2.2); (try have zn_hm2:=Zo6 hm2 zh); (try have zn_hm2:=Zo6 hm2 zg.2); (try have zn_hm2:=Zo6 hm2 zg.2.2)) | (exact Zpa _) | (refine Zpi ?_ ?_) | (with_reducible refine And.intro ?_ ?_)))
    all_goals first
     | rw [hR'.out]
     | (rename_i r3 n3 n3' w1 w2; exact (Zph n3).of_set zg.2)
   ·by_cases hk:0<nk
    ·have hR':=Zo8 (show (2:Int)=R by rw [hR,ho]; simp [hk]);clear hR ho ih
     (repeat' (first | (simp only [↓ZF,ZG,↓XZ,ptrV,intV,Zo5,Zo7,reduceCtorEq,Yb,ZJ,Zo9,undef,ZW,Yd,ZT,Yk,Ym,Yg,ZZ, *]) | (refine ZM ?_) | (refine ZR mixed (fun _ _ _ _ e h=>⟨e.trans h.1,h.2⟩) _ (Zpa _) ?_) | (refine ZH fun zr zh=>?_; have zg:=zh; (try simp only [Zpb] at zg); (try have zn_hm1:=Zo6 hm1 zh); (try have zn_hm1:=Zo6 hm1 zg.2); (try have zn_hm1:=Zo6 hm1 zg.2.2); (try have zn_hm2:=Zo6 hm2 zh); (try have zn_hm2:=Zo6 hm2 zg.2); (try have zn_hm2:=Zo6 hm2 zg.2.2)) | (exact Zpa _) | (refine Zpi ?_ ?_) | (with_reducible refine And.intro ?_ ?_)))
     all_goals first
      | rw [hR'.out]
      | (rename_i r3 n3 n3' w1 w2; exact (Zph n3).of_set zg.2)
    ·rcases hfa with ⟨hat,hfn⟩ | ⟨j,hj,hat,hjn,hfn⟩
     ·have hR':=Zo8 (show (9:Int)=R by rw [hR,ho]; simp [hn,hk,hat]);clear hR ho ih hat
      (repeat' (first | (refine ZnH JB hz hfn (by first | assumption | simp only [Zpf, *,if_false]) ?_) | (simp only [↓Wj,↓Xx,↓Xy,↓Xm,↓Xc,↓XI,↓YS,↓ZaU,↓WO,↓XA,↓Yo,↓ZaV,↓ZbC,↓Ys,↓WK,↓Zb9,↓Zgm,↓YJ,↓YG,↓YH,↓YI,↓YT,↓ZI,↓YV,↓YB,↓JL,↓ZaW,↓Zct,↓YR,↓Wc,↓s_un,↓Zax,↓Yj,↓WG,↓Jy,↓Zd7,↓JM,↓WH,↓YK,↓XZ,ptrV,intV,boolV,Zpp,Zpw,ZpN,ZpK,ZpL,ite_true,ite_false,Zo5,Zo7,ne_eq,not_false_eq_true,true_and,ZpT,Zpv,decide_true,decide_false,Bool.not_true,Bool.not_false,reduceCtorEq,ZJ,↓Wv,↓XR,Zpf,eq_self,Zpu,ZpO,Zo9,We,Xw,↓Zaz,Wf,Jo,ZbQ,Wg,XF,Jj,↓Zay,undef,eq_funP,Option.isNone_none,okV,ZW,Yd,ZT,Ja,Yk,Ym,Yg,ZaS,ZZ, *]) | (refine ZM ?_) | (refine ZR mixed (fun _ _ _ _ e h=>⟨e.trans h.1,h.2⟩) _ (Zpa _) ?_) | (refine ZH fun zr zh=>?_; have zg:=zh; (try simp only [Zpb] at zg); (try have zn_hm1:=Zo6 hm1 zh); (try have zn_hm1:=Zo6 hm1 zg.2); (try have zn_hm1:=Zo6 hm1 zg.2.2); (try have zn_hm2:=Zo6 hm2 zh); (try have zn_hm2:=Zo6 hm2 zg.2); (try have zn_hm2:=Zo6 hm2 zg.2.2)) | (exact Zpa _) | (refine Zpi ?_ ?_) | (with_reducible refine And.intro ?_ ?_)))
      all_goals first
       | rw [hR'.out]
       | (rename_i r3 n3 n3' w1 w2; exact (Zph n3).of_set zg.2)
     ·clear hjn;have hj0:¬ (j:Int)<0:=by omega
      have hR':=Zo8 (show R=sdsF p kids bound by rw [hR,ho]; simp [hn,hk,hat,hj0]);clear hR ho hat
      (repeat' (first | (refine Zcy JB hz hfn (by first | assumption | simp only [Zpf, *,if_false]) ?_) | (simp only [↓Wj,↓Xx,↓Xy,↓Zbm,↓Xm,↓Xc,↓XI,↓YS,↓Zin,↓WO,↓XA,↓Yo,↓ZaV,↓ZbC,↓Ys,↓Zb9,↓YJ,↓YG,↓YH,↓YI,↓YT,↓ZI,↓YV,↓YB,↓JL,↓ZaW,↓Zct,↓YR,↓Wc,↓s_un,↓Zax,↓Yj,↓WG,↓Jy,↓Zd7,↓JM,↓WH,↓YK,↓XZ,ptrV,intV,boolV,Zpp,Zpw,ZpN,ZpK,ZpL,ite_true,ite_false,Zo5,Zo7,ne_eq,not_false_eq_true,true_and,ZpT,Zpv,decide_true,decide_false,Bool.not_true,Bool.not_false,reduceCtorEq,ZJ,↓Wv,↓XR,Zpf,eq_self,Zpu,ZpO,Zo9,We,Xw,↓Zaz,Wf,Jo,ZbQ,Wg,XF,Jj,↓Zay,undef,eq_funI,okV,ZW,Yd,ZT,Ja,Yk,Ym,Yg,ZaS,ZZ, *]) | (refine ZR mixed (fun _ _ _ _ e h=>⟨e.trans h.1,h.2⟩) _ (Zpa _) ?_) | (refine ZH fun zr zh=>?_; have zg:=zh; (try simp only [Zpb] at zg); (try have zn_hm1:=Zo6 hm1 zh); (try have zn_hm1:=Zo6 hm1 zg.2); (try have zn_hm1:=Zo6 hm1 zg.2.2); (try have zn_hm2:=Zo6 hm2 zh); (try have zn_hm2:=Zo6 hm2 zg.2); (try have zn_hm2:=Zo6 hm2 zg.2.2))))
      rename_i r3 n3 n3' w1 w2;have hsr:∀ b1 b2,SubH H ((H.set r3 b1).set zr b2):=fun _ _=>(Zph n3).of_set zg.2
      refine Zft (ks:=kids) (nm:=bound) (r3:=r3) hN (fun i h H=>ih _ (by omega) i h H) hR'.out (by simp only [ZI,Zo5,if_false, *]<;>rfl) ⟨m1,m2,rfl,hsr _ _ _ _ hm1,hsr _ _ _ _ hm2⟩ (by simp only [ZI,Zo5,if_true,if_false, *]<;>rfl) (by simp only [Zpf, *,if_true,if_false]<;>rfl) (by simp only [ZI,Zo5,if_true,if_false, *]<;>rfl) (by simp only [ZI,Zo5,if_true,if_false, *]<;>rfl) (by simp only [ZI,Zo5,if_true,if_false, *]<;>rfl) (hsr _ _)
  ·by_cases h5:op=5
   ·subst h5;by_cases hn:name={ data:=#[] }
    ·have hR':=Zo8 (show (2:Int)=R by rw [hR,ho]; simp [hn]);clear hR ho ih
     (repeat' (first | (simp only [↓ZF,ZG,↓XZ,ptrV,intV,Zo5,Zo7,reduceCtorEq,Yb,ZJ,Zo9,undef,ZW,Yd,ZT,Yk,Ym,Yg,ZZ, *]) | (refine Zdy ?_ ?_<;>intro) | (refine ZM ?_) | (refine ZR mixed (fun _ _ _ _ e h=>⟨e.trans h.1,h.2⟩) _ (Zpa _) ?_) | (refine ZH fun zr zh=>?_; have zg:=zh; (try simp only [Zpb] at zg); (try have zn_hm1:=Zo6 hm1 zh); (try have zn_hm1:=Zo6 hm1 zg.2); (try have zn_hm1:=Zo6 hm1 zg.2.2); (try have zn_hm2:=Zo6 hm2 zh); (try have zn_hm2:=Zo6 hm2 zg.2); (try have zn_hm2:=Zo6 hm2 zg.2.2)) | (exact Zpa _) | (refine Zpi ?_ ?_) | (with_reducible refine And.intro ?_ ?_)))
     all_goals first
      | rw [hR'.out]
      | (rename_i r3 n3 n3' w1 w2; exact (Zph n3).of_set zg.2)
    ·by_cases hk:nk=1
     ·have hR':=Zo8 (show R=sdsF p kids (bound++[name]) by rw [hR,ho]; simp [hn,hk]);clear hR ho
      (repeat' (first | (simp only [↓ZF,ZG,↓XZ,ptrV,intV,Zo5,Zo7,Zpo,reduceCtorEq,ZJ,fillV,setAt,Zo9,forall_const,undef,ZpE,ZN,YC,ZpS,Zps,Xj,idxV,idxOk,ZN,ZW,Yd,ZT,Yk,Ym,Yg,ZZ,Jp,Zbt, *]) | (refine ZR mixed (fun _ _ _ _ e h=>⟨e.trans h.1,h.2⟩) _ (Zpa _) ?_) | (refine ZH fun zr zh=>?_; have zg:=zh; (try simp only [Zpb] at zg); (try have zn_hm1:=Zo6 hm1 zh); (try have zn_hm1:=Zo6 hm1 zg.2); (try have zn_hm1:=Zo6 hm1 zg.2.2); (try have zn_hm2:=Zo6 hm2 zh); (try have zn_hm2:=Zo6 hm2 zg.2); (try have zn_hm2:=Zo6 hm2 zg.2.2)) | (with_reducible refine And.intro ?_ ?_)))
      ·exact Nat.zero_le _
      ·rw [show (bound.length == bound.length)=true from by simp,Nat.sub_zero];refine ZeD Jp Zbt rfl (by omega) (XU (enc:=strE) (k:=1) (fun _=>rfl) bound) rfl rfl (by omega) (by omega) (fun v' H' ho=>?_);have k4:=ho.sub _ _ (Zpc _ _ _);rename_i r3 n3 n3' w1 w2;have k3:H' r3=some (.cells 115 (tabE m1 m2) 0):=ho.sub _ _ (by rw [Zpg _ _ zg.1.2]; exact Zpc _ _ _);have hsr:∀ b1 b2,SubH H ((H.set r3 b1).set zr b2):=fun _ _=>(Zph n3).of_set zg.2
       have e1:encC strE bound++[sV name]=encC strE (bound++[name]):=by rw [Yu]; rfl
       have e2:bound.length+1=(bound++[name]).length:=by simp
       rw [e1,e2] at ho;have hoc:=ho.cells.1;replace ho:=Zo8 ho;clear e1 e2
       (repeat' (first | (simp only [↓ZF,ZG,intV,Zo5,Zo7,reduceCtorEq,Zo9,ZW,Yk,ZZ, *])))
       refine JY (OwnX.ghost (i:=2) (e:=9) (k:=1) (n:=(bound++[name]).length) (cs:=encC strE (bound++[name])) (by simp only [ZI,Zo5,if_true,if_false]; exact ho.out) (Zpa _) _) ?_;exact Zft (ks:=kids) (nm:=bound++[name]) (r3:=r3) hN (fun i h H=>ih _ (by simp) i h H) hR'.out (by simp only [ZI,Zo5,if_true,if_false, *]<;>rfl) ⟨m1,m2,rfl,hsr _ _ _ _ hm1,hsr _ _ _ _ hm2⟩ (by simp only [ZI,Zo5,if_true,if_false, *]<;>rfl) (by rw [Zpg _ _ zg.1.2]; exact Zpc _ _ _) (by simp only [ZI,Zo5,if_true,if_false, *]<;>rfl) (by simp only [ZI,Zo5,if_true,if_false, *]<;>rfl) (by simp only [ZI,Zo5,if_true,if_false, *]<;>rfl) (hsr _ _)
     ·have hR':=Zo8 (show (2:Int)=R by rw [hR,ho]; simp [hk]);clear hR ho ih
      (repeat' (first | (simp only [↓ZF,ZG,↓XZ,ptrV,intV,Zo5,Zo7,reduceCtorEq,Yb,ZJ,Zo9,undef,ZW,Yd,ZT,Yk,Ym,Yg,ZZ, *]) | (refine ZM ?_) | (refine ZR mixed (fun _ _ _ _ e h=>⟨e.trans h.1,h.2⟩) _ (Zpa _) ?_) | (refine ZH fun zr zh=>?_; have zg:=zh; (try simp only [Zpb] at zg); (try have zn_hm1:=Zo6 hm1 zh); (try have zn_hm1:=Zo6 hm1 zg.2); (try have zn_hm1:=Zo6 hm1 zg.2.2); (try have zn_hm2:=Zo6 hm2 zh); (try have zn_hm2:=Zo6 hm2 zg.2); (try have zn_hm2:=Zo6 hm2 zg.2.2)) | (exact Zpa _) | (refine Zpi ?_ ?_) | (with_reducible refine And.intro ?_ ?_)))
      all_goals first
       | rw [hR'.out]
       | (rename_i r3 n3 n3' w1 w2; exact (Zph n3).of_set zg.2)
   ·by_cases h4:op=4
    ·subst h4;by_cases hn:name={ data:=#[] }
     ·by_cases hk:nk<2
      ·have hR':=Zo8 (show (2:Int)=R by rw [hR,ho]; simp [hk]);clear hR ho ih
       (repeat' (first | (simp only [↓ZF,ZG,↓XZ,ptrV,intV,Zo5,Zo7,reduceCtorEq,Yb,ZJ,Zo9,undef,ZW,Yd,ZT,Yk,Ym,Yg,ZZ, *]) | (refine ZM ?_) | (refine ZR mixed (fun _ _ _ _ e h=>⟨e.trans h.1,h.2⟩) _ (Zpa _) ?_) | (refine ZH fun zr zh=>?_; have zg:=zh; (try simp only [Zpb] at zg); (try have zn_hm1:=Zo6 hm1 zh); (try have zn_hm1:=Zo6 hm1 zg.2); (try have zn_hm1:=Zo6 hm1 zg.2.2); (try have zn_hm2:=Zo6 hm2 zh); (try have zn_hm2:=Zo6 hm2 zg.2); (try have zn_hm2:=Zo6 hm2 zg.2.2)) | (exact Zpa _) | (refine Zpi ?_ ?_) | (with_reducible refine And.intro ?_ ?_)))
       all_goals first
        | rw [hR'.out]
        | (rename_i r3 n3 n3' w1 w2; exact (Zph n3).of_set zg.2)
      ·have hR':=Zo8 (show R=sdsF p kids bound by rw [hR,ho]; simp [hn,hk]);clear hR ho
       (repeat' (first | (simp only [↓ZF,ZG,↓XZ,ptrV,intV,Zo5,Zo7,reduceCtorEq,ZJ,Zo9,undef,ZpE,ZW,Yd,ZT,Yk,Ym,Yg,ZZ, *]) | (refine ZR mixed (fun _ _ _ _ e h=>⟨e.trans h.1,h.2⟩) _ (Zpa _) ?_) | (refine ZH fun zr zh=>?_; have zg:=zh; (try simp only [Zpb] at zg); (try have zn_hm1:=Zo6 hm1 zh); (try have zn_hm1:=Zo6 hm1 zg.2); (try have zn_hm1:=Zo6 hm1 zg.2.2); (try have zn_hm2:=Zo6 hm2 zh); (try have zn_hm2:=Zo6 hm2 zg.2); (try have zn_hm2:=Zo6 hm2 zg.2.2))))
       rename_i r3 n3 n3' w1 w2;have hsr:∀ b1 b2,SubH H ((H.set r3 b1).set zr b2):=fun _ _=>(Zph n3).of_set zg.2
       refine Zft (ks:=kids) (nm:=bound) (r3:=r3) hN (fun i h H=>ih _ (by omega) i h H) hR'.out (by simp only [ZI,Zo5,if_false, *]<;>rfl) ⟨m1,m2,rfl,hsr _ _ _ _ hm1,hsr _ _ _ _ hm2⟩ (by simp only [ZI,Zo5,if_true,if_false, *]<;>rfl) (by simp only [Zpf, *,if_true,if_false]<;>rfl) (by simp only [ZI,Zo5,if_true,if_false, *]<;>rfl) (by simp only [ZI,Zo5,if_true,if_false, *]<;>rfl) (by simp only [ZI,Zo5,if_true,if_false, *]<;>rfl) (hsr _ _)
     ·have hR':=Zo8 (show (2:Int)=R by rw [hR,ho]; simp [hn]);clear hR ho ih
      (repeat' (first | (simp only [↓ZF,ZG,↓XZ,ptrV,intV,Zo5,Zo7,reduceCtorEq,Yb,ZJ,Zo9,undef,ZW,Yd,ZT,Yk,Ym,Yg,ZZ, *]) | (refine Xu ?_ ?_<;>intro) | (refine ZM ?_) | (refine ZR mixed (fun _ _ _ _ e h=>⟨e.trans h.1,h.2⟩) _ (Zpa _) ?_) | (refine ZH fun zr zh=>?_; have zg:=zh; (try simp only [Zpb] at zg); (try have zn_hm1:=Zo6 hm1 zh); (try have zn_hm1:=Zo6 hm1 zg.2); (try have zn_hm1:=Zo6 hm1 zg.2.2); (try have zn_hm2:=Zo6 hm2 zh); (try have zn_hm2:=Zo6 hm2 zg.2); (try have zn_hm2:=Zo6 hm2 zg.2.2)) | (exact Zpa _) | (refine Zpi ?_ ?_) | (with_reducible refine And.intro ?_ ?_)))
      all_goals first
       | rw [hR'.out]
       | (rename_i r3 n3 n3' w1 w2; exact (Zph n3).of_set zg.2)
    ·by_cases h3:op=3
     ·subst h3;by_cases hn:name={ data:=#[] }
      ·have hR':=Zo8 (show (2:Int)=R by rw [hR,ho]; simp [hn]);clear hR ho ih
       (repeat' (first | (simp only [↓ZF,ZG,↓XZ,ptrV,intV,Zo5,Zo7,reduceCtorEq,ZJ,Zo9,undef,ZW,Yd,ZT,Yk,Ym,Yg,ZZ, *]) | (refine ZM ?_) | (refine ZR mixed (fun _ _ _ _ e h=>⟨e.trans h.1,h.2⟩) _ (Zpa _) ?_) | (refine ZH fun zr zh=>?_; have zg:=zh; (try simp only [Zpb] at zg); (try have zn_hm1:=Zo6 hm1 zh); (try have zn_hm1:=Zo6 hm1 zg.2); (try have zn_hm1:=Zo6 hm1 zg.2.2); (try have zn_hm2:=Zo6 hm2 zh); (try have zn_hm2:=Zo6 hm2 zg.2); (try have zn_hm2:=Zo6 hm2 zg.2.2)) | (exact Zpa _) | (refine Zpi ?_ ?_) | (with_reducible refine And.intro ?_ ?_)))
       all_goals first
        | rw [hR'.out]
        | (rename_i r3 n3 n3' w1 w2; exact (Zph n3).of_set zg.2)
      ·rcases hca with ⟨hat,hcn⟩ | ⟨j,hj,hat,hjn,hcn⟩
       ·have hR':=Zo8 (show (9:Int)=R by rw [hR,ho]; simp [hn,hat]);clear hR ho ih hat
        (repeat' (first | (refine ZnH Zde hz hcn (by first | assumption | simp only [Zpf, *,if_false]) ?_) | (simp only [↓Wj,↓Xx,↓Xy,↓Xm,↓Xc,↓XI,↓YS,↓ZaU,↓WO,↓XA,↓Yo,↓Ys,↓WK,↓Zb9,↓Zgm,↓YJ,↓YG,↓YH,↓YI,↓YT,↓ZI,↓YV,↓YB,↓YR,↓Wc,↓s_un,↓Zax,↓Yj,↓WG,↓Wo,↓Jy,↓Zd7,↓JM,↓YK,↓XZ,ZP,ptrV,intV,boolV,Zpp,Zpw,ZpN,ZpK,ZpL,ite_true,ite_false,Zo5,Zo7,ne_eq,not_false_eq_true,true_and,Zpv,decide_true,decide_false,Bool.not_true,Bool.not_false,reduceCtorEq,ZJ,↓Wv,↓XR,Zpf,eq_self,Zpu,ZpO,Zo9,Zqa,Zqb,We,Xw,↓Zaz,Wf,Jo,ZbQ,Wg,XF,Jj,↓Zay,undef,okV,ZW,Yd,ZT,Zc8,Yk,Ym,Yg,ZgM,ZZ, *]) | (refine ZM ?_) | (refine ZR mixed (fun _ _ _ _ e h=>⟨e.trans h.1,h.2⟩) _ (Zpa _) ?_) | (refine ZH fun zr zh=>?_; have zg:=zh; (try simp only [Zpb] at zg); (try have zn_hm1:=Zo6 hm1 zh); (try have zn_hm1:=Zo6 hm1 zg.2); (try have zn_hm1:=Zo6 hm1 zg.2.2); (try have zn_hm2:=Zo6 hm2 zh); (try have zn_hm2:=Zo6 hm2 zg.2); (try have zn_hm2:=Zo6 hm2 zg.2.2)) | (exact Zpa _) | (refine Zpi ?_ ?_) | (with_reducible refine And.intro ?_ ?_)))
        all_goals first
         | rw [hR'.out]
         | (rename_i r3 n3 n3' w1 w2; exact (Zph n3).of_set zg.2)
       ·have hj0:¬ (j:Int)<0:=by omega
        rw [hat] at ho;simp only [ZpW,ZpP hj] at ho;clear hjn;by_cases hka:nk=p.cons[j].arity
        ·have hR':=Zo8 (show R=sdsF p kids bound by rw [hR,ho]; simp [hn,hj0,hka]);clear hR ho hat
         (repeat' (first | (refine Zcy Zde hz hcn (by first | assumption | simp only [Zpf, *,if_false]) ?_) | (simp only [↓Wj,↓Xx,↓Xy,↓Zbm,↓Xm,↓Xc,↓XI,↓YS,↓Zin,↓WO,↓XA,↓Yo,↓Ys,↓Zb9,↓YJ,↓YG,↓YH,↓YI,↓YT,↓ZI,↓YV,↓YB,↓YR,↓Wc,↓s_un,↓Zax,↓Yj,↓WG,↓Wo,↓Jy,↓Zd7,↓JM,↓YK,↓Zab,↓XZ,ZP,ptrV,intV,boolV,Zpp,Zpw,ZpN,ZpK,ZpL,ite_true,ite_false,Zo5,Zo7,ne_eq,not_false_eq_true,true_and,Zpv,decide_true,decide_false,Bool.not_true,Bool.not_false,reduceCtorEq,ZJ,↓Wv,↓XR,Zpf,eq_self,Zpu,ZpO,Zo9,Zqa,Zqb,We,Xw,↓Zaz,Wf,Jo,ZbQ,Wg,XF,Jj,↓Zay,undef,okV,ZW,Yd,ZT,Zc8,Yk,Ym,Yg,ZgM,ZZ, *]) | (refine ZR mixed (fun _ _ _ _ e h=>⟨e.trans h.1,h.2⟩) _ (Zpa _) ?_) | (refine ZH fun zr zh=>?_; have zg:=zh; (try simp only [Zpb] at zg); (try have zn_hm1:=Zo6 hm1 zh); (try have zn_hm1:=Zo6 hm1 zg.2); (try have zn_hm1:=Zo6 hm1 zg.2.2); (try have zn_hm2:=Zo6 hm2 zh); (try have zn_hm2:=Zo6 hm2 zg.2); (try have zn_hm2:=Zo6 hm2 zg.2.2))))
         rename_i r3 n3 n3' w1 w2;have hsr:∀ b1 b2,SubH H ((H.set r3 b1).set zr b2):=fun _ _=>(Zph n3).of_set zg.2
         refine Zft (ks:=kids) (nm:=bound) (r3:=r3) hN (fun i h H=>ih _ (by omega) i h H) hR'.out (by simp only [ZI,Zo5,if_false, *]<;>rfl) ⟨m1,m2,rfl,hsr _ _ _ _ hm1,hsr _ _ _ _ hm2⟩ (by simp only [ZI,Zo5,if_true,if_false, *]<;>rfl) (by simp only [Zpf, *,if_true,if_false]<;>rfl) (by simp only [ZI,Zo5,if_true,if_false, *]<;>rfl) (by simp only [ZI,Zo5,if_true,if_false, *]<;>rfl) (by simp only [ZI,Zo5,if_true,if_false, *]<;>rfl) (hsr _ _)
        ·have hR':=Zo8 (show (5:Int)=R by rw [hR,ho]; simp [hn,hj0,hka]);clear hR ho hat ih
         (repeat' (first | (refine Zcy Zde hz hcn (by first | assumption | simp only [Zpf, *,if_false]) ?_) | (simp only [↓Wj,↓Xx,↓Xy,↓Xm,↓Xc,↓XI,↓YS,↓ZaU,↓WO,↓XA,↓Yo,↓Ys,↓WK,↓Zb9,↓Zgm,↓YJ,↓YG,↓YH,↓YI,↓YT,↓ZI,↓YV,↓YB,↓YR,↓Wc,↓s_un,↓Zax,↓Yj,↓WG,↓Wo,↓Jy,↓Zd7,↓JM,↓YK,↓Zab,↓XZ,ZP,ptrV,intV,boolV,Zpp,Zpw,ZpN,ZpK,ZpL,ite_true,ite_false,Zo5,Zo7,ne_eq,not_false_eq_true,true_and,Zpv,decide_true,decide_false,Bool.not_true,Bool.not_false,reduceCtorEq,ZJ,↓Wv,↓XR,Zpf,eq_self,Zpu,ZpO,Zo9,Zqa,Zqb,We,Xw,↓Zaz,Wf,Jo,ZbQ,Wg,XF,Jj,↓Zay,undef,okV,ZW,Yd,ZT,Zc8,Yk,Ym,Yg,ZgM,ZZ, *]) | (refine ZM ?_) | (refine ZR mixed (fun _ _ _ _ e h=>⟨e.trans h.1,h.2⟩) _ (Zpa _) ?_) | (refine ZH fun zr zh=>?_; have zg:=zh; (try simp only [Zpb] at zg); (try have zn_hm1:=Zo6 hm1 zh); (try have zn_hm1:=Zo6 hm1 zg.2); (try have zn_hm1:=Zo6 hm1 zg.2.2); (try have zn_hm2:=Zo6 hm2 zh); (try have zn_hm2:=Zo6 hm2 zg.2); (try have zn_hm2:=Zo6 hm2 zg.2.2)) | (exact Zpa _) | (refine Zpi ?_ ?_) | (with_reducible refine And.intro ?_ ?_)))
         all_goals first
          | rw [hR'.out]
          | (rename_i r3 n3 n3' w1 w2; exact (Zph n3).of_set zg.2)
     ·have hR':=Zo8 (show (2:Int)=R by rw [hR,ho]; simp [h1,h2,h3,h4,h5]);clear hR ho ih
      (repeat' (first | (simp only [↓ZF,ZG,↓XZ,ptrV,intV,Zo5,Zo7,reduceCtorEq,ZJ,Zo9,undef,ZW,Yd,ZT,Yk,Ym,Yg,ZZ, *]) | (refine ZM ?_) | (refine ZR mixed (fun _ _ _ _ e h=>⟨e.trans h.1,h.2⟩) _ (Zpa _) ?_) | (refine ZH fun zr zh=>?_; have zg:=zh; (try simp only [Zpb] at zg); (try have zn_hm1:=Zo6 hm1 zh); (try have zn_hm1:=Zo6 hm1 zg.2); (try have zn_hm1:=Zo6 hm1 zg.2.2); (try have zn_hm2:=Zo6 hm2 zh); (try have zn_hm2:=Zo6 hm2 zg.2); (try have zn_hm2:=Zo6 hm2 zg.2.2)) | (exact Zpa _) | (refine Zpi ?_ ?_) | (with_reducible refine And.intro ?_ ?_)))
      all_goals first
       | rw [hR'.out]
       | (rename_i r3 n3 n3' w1 w2; exact (Zph n3).of_set zg.2)
end Go.PV.Ytglpmlbbaedbiaa
end
