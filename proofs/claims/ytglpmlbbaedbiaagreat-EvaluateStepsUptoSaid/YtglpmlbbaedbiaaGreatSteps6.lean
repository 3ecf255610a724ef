/- Part 6 of 11 of what the proof of Steps needs. -/
import Derived.Test.YtglpmlbbaedbiaaGreatSteps5
set_option linter.unusedVariables false
set_option linter.unusedSimpArgs false
set_option linter.defProp false
section
open Go.PV.AH renaming set_none→Zn2,del_ne→Zov,set_same→Zn4,get→Zn8,ne_of→ZnX,set_ne→Zoa
open Go.PV.GhV renaming refl→Zoq
open Go.PV.Hold renaming mk→Zn0
open Go.PV.PureF renaming forget→Zoj,use→Zn3
open Go.PV.SubH renaming refl→Zn1,of_set→Zn6,new→Zn5
open Int renaming reduceLT→Zom,reduceNeg→ZoA
open List renaming drop→ZnZ,drop_zero→ZoB,map_cons→Zou,map_nil→ZoE,length_cons→Zox,all_cons→ZoT,set_cons_zero→Zo1,drop_eq_getElem_cons→Zoz,getElem_mem→Zn9,drop_eq_nil_of_le→Zop,getD_cons_zero→ZoP,getD_cons_succ→ZoQ,getD_nil→ZoR,take_of_length_le→Zos
open Nat renaming reduceEqDiff→ZnW,reduceLT→ZnY,succ_ne_self→ZoD,zero_add→Zot,le_refl→Zoc,reduceAdd→Zn7
open Option renaming map_some→Zog
set_option maxRecDepth 20000
set_option maxHeartbeats 4000000
namespace Go.PV.YtglpmlbbaedbiaaGreat
open Go Go.Proofs
theorem Zkw (p:Pa):PureF Tryz.prog 137 [paV p] (boolV (!p.con)):=by
 refine Zoj fun H=>?_
 refine ZN fd137 (by simp) ?_;delta c137 Zj Zq Zd Zb Zr Zc
 (repeat' (first | (simp only [↓ZI,ZJ,ptrV,boolV,ZnW,ZnY,ZM,ZnZ,undef,ZcK,JQ, *]) | (refine ZP ?_) | (refine ZK fun zr zh=>?_; have zg:=zh; (try simp only [Zn2] at zg)) | (exact Zn1 _) | (refine Zn6 ?_ ?_)))
theorem isCon_ok (p:Pa):PureF Tryz.prog 138 [paV p] (boolV p.con):=by
 refine Zoj fun H=>?_
 refine ZN fd138 (by simp) ?_;delta c138 Zj Zq Zd Zb Zc
 (repeat' (first | (simp only [↓ZI,ZJ,ptrV,boolV,ZnW,ZnY,ZM,ZnZ,undef,ZcK,JQ, *]) | (refine ZP ?_) | (refine ZK fun zr zh=>?_; have zg:=zh; (try simp only [Zn2] at zg)) | (exact Zn1 _) | (refine Zn6 ?_ ?_)))
mutual
theorem Pa.all_around:∀ (p:Pa) (a:Int),∀ x∈p.all a,a≤x.2∧x.2 < a + p.sz
 | .mk c n ks,a,x,h=>by
   rw [Pa.all] at h;rw [Pa.sz];rcases List.mem_cons.1 h with rfl | h
   ·dsimp only; omega
   ·have:=Zdw ks (a + 1) x h; omega
theorem Zdw:∀ (l:List Pa) (a:Int),∀ x∈Xp l a,a≤x.2∧x.2 < a + pasSz l
 | [],a,x,h=>by cases h
 | p :: l,a,x,h=>by
   rw [Xp] at h;rw [pasSz];rcases List.mem_append.1 h with h | h
   ·have:=Pa.all_around p a x h; omega
   ·have:=Zdw l a x h; omega
end
def dpL (l:List Pl):Int:=l.foldl (fun d x=>max d (x.2 + 1)) 0
theorem dpL_snoc (l:List Pl) (x:Pl):dpL (l ++ [x])=max (dpL l) (x.2 + 1):=by rw [dpL,List.foldl_append]; rfl
def plErr (l:List Co) (x:Pl):Int :=
 if nameB x.1.name=true∧¬ (x.1.con=false∧0 < x.1.kids.length) then
  (if x.1.con=true then (if atCo l x.1.name < 0 then 9 else if (x.1.kids.length:Int)=(match l[(atCo l x.1.name).toNat]? with | some c=>c.arity | none=>0) then 0 else 5) else 0)
 else 411
def WN (l:List Co):List Pl→Int
 | []=>0
 | x :: m=>if plErr l x=0 then WN l m else plErr l x
def paChk (l:List Co) (p:Pa):Int:=if 100 < p.sz then 7 else if 50 < dpL (p.all 0) then 6 else WN l (p.all 0)
theorem Zij {t:Nat→VV} {r4 sp:Nat} {e:TypeId} {c R:Int} {H H0:AH} (h4:t 4=ptrV r4 0) (k4:H r4=some (.cells e [iV c] sp)) (hc:c=R) (hs:SubH H0 H):WM Tryz.prog [.cell 4 38] (fun e H'=>e=.ret (iV R)∧SubH H0 H') t [] .returning H:=by
 subst hc;refine ⟨iV c,H,iV c,?_,Zoq _ _,rfl,hs⟩;simp only [resV,YO,YN,ldT_38,h4,k4,ptrV,ZoB,Zog];rfl
theorem ZmH {t:Nat→VV} {r4 r sp:Nat} {e:TypeId} {c R:Int} {H H0:AH} (h4:t 4=ptrV r4 0) (k4:H r4=some (.cells e [iV c] sp)) (hc:c=R) (hne:r4 ≠ r) (qr:H r=some (.obj (.deferred (some [])))) (hs:SubH H0 H) (gr:H0 r=none) :
 ZeR Tryz.prog [.cell 4 38] (fun e H'=>e=.ret (iV R)∧SubH H0 H') .ret ⟨t,[WS r]⟩ H:=⟨by simp,qr,Zij h4 (by rw [Zov _ hne]; exact k4) hc (hs.del gr)⟩
theorem Zkx {t:Nat→VV} {r4 r r' sp:Nat} {e:TypeId} {c R:Int} {H H0:AH} (h4:t 4=ptrV r4 0) (k4:H r4=some (.cells e [iV c] sp)) (hc:c=R) (hne:r4 ≠ r) (hne':r4 ≠ r') (hrr:r ≠ r') (qr:H r=some (.obj (.deferred (some [])))) (qr':H r'=some (.obj (.deferred (some [])))) (hs:SubH H0 H) (gr:H0 r=none) (gr':H0 r'=none) :
 WM Tryz.prog [.cell 4 38] (fun e H'=>e=.ret (iV R)∧SubH H0 H') t [WS r',WS r] .returning H:=⟨by simp,qr',by simp,by rw [Zov _ hrr]; exact qr,Zij h4 (by rw [Zov _ hne,Zov _ hne']; exact k4) hc ((hs.del gr').del gr)⟩
theorem pcheck2 {p:Pa} {l:List Co} {t:Nat→VV} {r r2 r3 r4 r5 r6:Nat} {H0 B:AH} {R:Int} (hp:p.sz≤1099511627776) (hl:l.length≤1099511627776) (hnm:∀ x∈p.all 0,x.1.name.size≤1099511627776) (hR:R=paChk l p) (hs:SubH H0 B) (q2:B r2=some (.cells 74 [bV p.con,sV p.name,encS paE p.kids] 0)) (q3:B r3=some (.cells 41 [cosV l] 0)) (q4:B r4=some (.cells 38 [iV 0] 0)) (q5:B r5=some (.cells 3 [iV p.sz] 0)) (q6:B r6=some (.cells 3 [iV (dpL (p.all 0))] 0)) (qr:B r=some (.obj (.deferred (some [])))) (g4:H0 r4=none) (gr:H0 r=none)
 (t2:t 2=ptrV r2 0) (t3:t 3=ptrV r3 0) (t4:t 4=ptrV r4 0) (t5:t 5=ptrV r5 0) (t6:t 6=ptrV r6 0):ACx ⟨Tryz.prog,76,none⟩ Zjw (ZeR Tryz.prog [.cell 4 38] fun e H'=>e=.ret (iV R)∧SubH H0 H') ⟨t,[WS r]⟩ B:=by
 unfold paChk at hR;delta Zjw Zb Zm Zc Zr Zo Zi Zg Zd Zq Za Zp;have d4r:r4 ≠ r:=fun e=>by rw [e,qr] at q4; simp at q4
 have dr4:¬ r=r4:=Ne.symm d4r;replace hR:=Zn0 hR;refine Ya rfl (fun _ _ _ h=>h) ?_
 (repeat' (first | (refine Zl3 p (fun rb nb=>?_)) | (simp only [↓JH,↓WV,↓WW,↓ZbI,↓Wu,↓XA,↓Zck,↓Zgj,↓WX,↓Xe,↓Xf,↓Zak,↓Zcl,↓Zgl,↓XK,↓XL,↓Zax,↓XM,↓Zay,↓XN,↓We,↓JR,↓ZL,↓Xk,↓Wf,↓JO,↓JB,↓WD,↓XY,↓ZaM,ptrV,Zou,ZoE,Zox,List.length_nil,ite_true,ite_false,ZnW,ZnY,true_and,ZoD,decide_true,decide_false,setAt,ZoT,List.all_nil,Bool.and_self,eq_self,Zot,ZnZ,Zaf,Xt,ZlY,ZbN,Zo1,Zoc,JC,JD,Jo,ZdW,ZdX,Yc,Wn,Zf1,Zju, *]) | (refine ZY ?_ ?_<;>intro)))
 ·have h1:100 < p.sz:=by omega
  exact ZmH (by simp only [ZL,ZnW,if_false, *]<;>rfl) (Zn4 _ _ _) (by rw [hR.out,if_pos h1]) d4r (by simp only [Zn8, *,if_false]<;>rfl) (hs.of_set g4) gr
 ·have h1:¬ 100 < p.sz:=by omega
  exact ZmH (by simp only [ZL,ZnW,if_false, *]<;>rfl) (Zn4 _ _ _) (by rw [hR.out,if_neg h1,if_pos (by assumption)]) d4r (by simp only [Zn8, *,if_false]<;>rfl) (hs.of_set g4) gr
 have hR2:R=WN l (p.all 0):=by rw [hR.out,if_neg (by omega),if_neg (by assumption)]
 clear hR;have nb4:=ZnX q4 nb;have nbr:=ZnX qr nb
 refine Jz (fun t H=>SubH B H∧H rb=some (.cells 74 [bV p.con,sV p.name,encS paE p.kids] 0)∧t 2=ptrV r2 0∧t 3=ptrV r3 0∧t 4=ptrV r4 0∧t 27=.func (.func 141) [] [ptrV rb 0])
  ⟨Zn5 nb,Zn4 _ _ _,(by simp only [ZL,ZnW,if_false, *]<;>rfl),(by simp only [ZL,ZnW,if_false, *]<;>rfl),(by simp only [ZL,ZnW,if_false, *]<;>rfl),(by simp only [ZL,ZnW,if_true,if_false, *]<;>rfl)⟩ ?_
 clear t2 t3 t4 t5 t6;rintro t Hx ⟨sx,xb,t2,t3,t4,t27⟩;replace q3:=sx _ _ q3;replace q4:=sx _ _ q4;replace qr:=sx _ _ qr;replace hs:=hs.trans sx;clear sx nb nb4 nbr q2 q5 q6 B;replace hR2:=Zn0 hR2;refine Zbt rfl (.inl t27) (by kernel_rfl) ?_;intro r' l0 fn ca cb hca hcb hr hl0 hne hfn;have e4:=ZnX q4 hr;have f4:=ZnX q4 hl0;have e3:=ZnX q3 hr;have f3:=ZnX q3 hl0;have er:=ZnX qr hr;have fr:=ZnX qr hl0;have d34:r3 ≠ r4:=fun e=>by rw [e,q4] at q3; simp at q3
 have gr':H0 r'=none:=hs.none hr;have gl:H0 l0=none:=hs.none hl0;obtain ⟨Hb,hHb⟩:∃ Hb,Hb=(Hx.del r4).set r' (.obj (.deferred (some []))):=⟨_,rfl⟩
 have b4:Hb r4=none:=by rw [hHb,Zoa _ _ e4.1,AH.del_same]
 have bl:Hb l0=none:=by rw [hHb,Zoa _ _ hne,Zov _ f4.2]; exact hl0
 have b3:Hb r3=some (.cells 41 [cosV l] 0):=by rw [hHb,Zoa _ _ e3.1,Zov _ d34]; exact q3
 have br:Hb r=some (.obj (.deferred (some []))):=by rw [hHb,Zoa _ _ er.1,Zov _ (Ne.symm d4r)]; exact qr
 have br':Hb r'=some (.obj (.deferred (some []))):=by rw [hHb]; exact Zn4 _ _ _
 have hsb:SubH H0 Hb:=fun i b h=>by
  have hx:=hs _ _ h;rw [hHb,Zoa _ _ (ZnX hx hr).1,Zov _ (fun e=>by rw [e,g4] at h; cases h)];exact hx
 refine allRun (p:=p) (Mut:=fun x=>x=l0∨x=r4) (Inv:=fun k B=>SubH Hb B∧B l0=some (.loop .ready none fn 76 t #[28] ca cb r')∧B r4=some (.cells 38 [iV 0] 0)∧R=WN l ((p.all 0).drop k)) (Stop:=fun k B=>SubH Hb B∧B l0=some (.loop .done (some .ret) fn 76 t #[28] ca cb r')∧B r4=some (.cells 38 [iV R] 0))
  (fun k B B' h hs=>⟨h.1.trans hs,hs _ _ h.2.1,hs _ _ h.2.2.1,h.2.2.2⟩) (fun k B x h hm=>?_) hp ?_ (fun _ _ _=>rfl) rfl rfl (s0:=0) ?_ ?_ ?_ ?_
 ·rcases hm with rfl | rfl
  ·rw [h.2.1]; simp
  ·rw [h.2.2.1]; simp
 ·rintro k hk B ⟨hB,hBl,h4,hRk⟩ K' hk1 hk2;replace hRk:R=if plErr l (p.all 0)[k]=0 then WN l ((p.all 0).drop (k + 1)) else plErr l (p.all 0)[k]:=by rw [hRk,Zoz hk,WN]
  have hxn:=hnm _ (Zn9 hk);generalize (p.all 0)[k]=x at *
  have k3:=hB _ _ b3;have kr:=hB _ _ br;have kr':=hB _ _ br';have c1:=ZjG l x.1.name hl;have c2:=Zc3 x.1.name hxn;have c3:PureF Tryz.prog 137 [.agg [bV x.1.con,sV x.1.name,encS paE x.1.kids]] (boolV (!x.1.con)):=Zkw x.1;have c4:PureF Tryz.prog 138 [.agg [bV x.1.con,sV x.1.name,encS paE x.1.kids]] (boolV x.1.con):=isCon_ok x.1
  have hat:atCo l x.1.name=-1∨∃ j:Nat,∃ h:j < l.length,atCo l x.1.name=j:=by
   rcases Wm (fun c:Co=>decide (c.name=x.1.name)) l with ⟨h,_⟩ | ⟨j,h,hj,_⟩
   ·exact .inl h
   ·exact .inr ⟨j,h,hj⟩
  have hstop:∀ (H:AH) (c:Int),c=R→SubH Hb (H.set l0 (.loop .done (some .ret) fn 76 t #[28] ca cb r'))→H r4=some (.cells 38 [iV c] 0)→K' (.ret (boolV false)) (H.set l0 (.loop .done (some .ret) fn 76 t #[28] ca cb r')):=fun H c hc h1 h2=>by
   subst hc;exact hk2 _ ⟨h1,Zn4 _ _ _,by rw [Zoa _ _ f4.1]; exact h2⟩
  unfold plErr at hRk;show ACall Tryz.prog none _ [.agg [bV x.1.con,sV x.1.name,encS paE x.1.kids,iV x.2]] B K';generalize x.1.con=xc at *
  generalize x.1.name=xn at *
  generalize x.1.kids=xk at *
  generalize x.2=xa at *
  clear hxn hR2;generalize hnb:nameB xn=nb at *
  generalize hac:atCo l xn=ac at *
  generalize WN l ((p.all 0).drop (k + 1))=R' at *
  replace hRk:=Zn0 hRk;replace hstop:=Zn0 hstop;refine Zab (l:=l0) (pe:=none) (fn:=fn) (N:=76) (t:=t) (ps:=#[28]) («asg»:=ca) (bd:=cb) (ds:=r') hBl rfl (by simp) hfn ?_;refine Zdp hca ?_
  (repeat' (first | (simp only [↓ZI,ZJ,ptrV,ZnW,ZnY,Zn7,setAt,Zaz,Zi7,Zfm, *]) | (refine Ya rfl (fun _ _ _ h=>h) ?_) | (refine ZK fun zr zh=>?_; have zg:=zh; (try simp only [Zn2] at zg); (try have zn_h4:=ZnX h4 zh); (try have zn_h4:=ZnX h4 zg.2); (try have zn_h4:=ZnX h4 zg.2.2); (try have zn_k3:=ZnX k3 zh); (try have zn_k3:=ZnX k3 zg.2); (try have zn_k3:=ZnX k3 zg.2.2); (try have zn_kr:=ZnX kr zh); (try have zn_kr:=ZnX kr zg.2); (try have zn_kr:=ZnX kr zg.2.2); (try have zn_kr':=ZnX kr' zh); (try have zn_kr':=ZnX kr' zg.2); (try have zn_kr':=ZnX kr' zg.2.2); (try have zn_hBl:=ZnX hBl zh); (try have zn_hBl:=ZnX hBl zg.2); (try have zn_hBl:=ZnX hBl zg.2.2)) | (with_reducible refine And.intro ?_ ?_)))
  ·exact ⟨none,rfl⟩
  ·intro pe;refine Zdp hcb ?_;have hfl:∀ b1 b2 b3 b4,SubH Hb ((((B.set zr b1).set l0 b2).set r4 b3).set l0 b4):=fun _ _ _ _=>(((hB.of_set (hB.none zh)).of_set bl).of_set b4).of_set bl
   cases nb with
   | false =>
     have e:=Zn0 (show (411:Int)=R by rw [hRk.out]; simp);clear hRk
     (repeat' (first | (simp only [↓ZI,ZJ,ptrV,boolV,ZnW,ZnY,reduceCtorEq,ZU,ZM,setAt,ZnZ,undef,JY,Jl,Ws,Ye,Zf1,ZaC,ZeM,Zdj, *]) | (refine Ya rfl (fun _ _ _ h=>h) ?_) | (refine Zn3 (c1) ?_) | (refine Zn3 (c2) ?_)))
     exact ⟨⟨pe,(by simp only [Zn8, *,if_true,if_false]<;>rfl)⟩,hstop.out _ _ e.out (hfl _ _ _ _) (Zn4 _ _ _)⟩
   | true =>
     cases xc with
     | false =>
       by_cases hkk:0 < xk.length
       ·have hkk2:(0:Int) < (xk.length:Int):=by omega
        have e:=Zn0 (show (411:Int)=R by rw [hRk.out]; simp [hkk]);clear hRk
        (repeat' (first | (simp only [↓ZI,ZJ,ptrV,intV,boolV,ZnW,ZnY,reduceCtorEq,setAt,ZnZ,JY,Jl,Wk,Wn,Ws,Ye,WL,Zf1,XU,ZaC,ZeM,Zdj, *]) | (refine Ya rfl (fun _ _ _ h=>h) ?_) | (refine Zn3 (c1) ?_) | (refine Zn3 (c2) ?_) | (refine Zn3 (c3) ?_)))
        exact ⟨⟨pe,(by simp only [Zn8, *,if_true,if_false]<;>rfl)⟩,hstop.out _ _ e.out (hfl _ _ _ _) (Zn4 _ _ _)⟩
       ·have hkk2:¬ (0:Int) < (xk.length:Int):=by omega
        have e:=Zn0 (show R=R' by rw [hRk.out]; simp [hkk]);clear hRk
        (repeat' (first | (simp only [↓ZI,ZJ,ptrV,intV,boolV,ZnW,ZnY,reduceCtorEq,ZU,ZM,ZnZ,undef,JY,Jl,Wk,Wn,Ws,Ye,WL,XU,ZaC,ZeM,Zdj,ZhC, *]) | (refine Ya rfl (fun _ _ _ h=>h) ?_) | (refine ZS mixed (fun _ _ _ _ e h=>⟨e.trans h.1,h.2⟩) _ (Zn1 _) ?_) | (exact Zn1 _) | (refine Zn3 (c1) ?_) | (refine Zn3 (c2) ?_) | (refine Zn3 (c3) ?_) | (refine Zn3 (c4) ?_) | (with_reducible refine And.intro ?_ ?_)))
        exact ⟨⟨pe,Zn4 _ _ _⟩,hk1 _ ⟨by rw [AH.set_set]; exact (hB.of_set (hB.none zh)).of_set bl,Zn4 _ _ _,(by simp only [Zn8, *,if_false]<;>rfl),e.out⟩ (fun i b hm hb=>by rw [AH.set_set,Zoa _ _ (fun h=>hm (.inl h)),Zoa _ _ (ZnX hb zh).1]; exact hb)⟩
     | true =>
       rcases hat with rfl | ⟨j,hj,rfl⟩
       ·have e:=Zn0 (show (9:Int)=R by rw [hRk.out]; simp);clear hRk
        (repeat' (first | (simp only [↓ZI,ZJ,ptrV,boolV,ZnW,ZnY,reduceCtorEq,ZU,ZM,setAt,ZnZ,undef,Zom,ZoA,JY,Jl,Wn,Ws,Ye,Zf1,ZaC,ZeM,Zdj,ZhC, *]) | (refine Ya rfl (fun _ _ _ h=>h) ?_) | (refine Zn3 (c1) ?_) | (refine Zn3 (c2) ?_) | (refine Zn3 (c3) ?_) | (refine Zn3 (c4) ?_)))
        exact ⟨⟨pe,(by simp only [Zn8, *,if_true,if_false]<;>rfl)⟩,hstop.out _ _ e.out (hfl _ _ _ _) (Zn4 _ _ _)⟩
       ·have hcd:=Jx hj;have hjl:(j:Int) < (l.length:Int):=by omega
        have hj0:¬ (j:Int) < 0:=by omega
        have hgj:l[(j:Int).toNat]?=some l[j]:=by simp [hj]
        by_cases hka:(xk.length:Int)=l[j].arity
        ·have e:=Zn0 (show R=R' by rw [hRk.out]; simp [hj,hka]);clear hRk
         (repeat' (first | (simp only [↓ZI,ZJ,ptrV,intV,boolV,ZnW,ZnY,reduceCtorEq,ZU,ZM,ZnZ,undef,JY,Jl,Wk,ZbH,Yc,Wn,Ws,Ye,WL,Zaw,XU,ZaC,ZeM,Zdj,ZhC, *]) | (refine Ya rfl (fun _ _ _ h=>h) ?_) | (refine ZS mixed (fun _ _ _ _ e h=>⟨e.trans h.1,h.2⟩) _ (Zn1 _) ?_) | (exact Zn1 _) | (refine Zn3 (c1) ?_) | (refine Zn3 (c2) ?_) | (refine Zn3 (c3) ?_) | (refine Zn3 (c4) ?_) | (with_reducible refine And.intro ?_ ?_)))
         exact ⟨⟨pe,Zn4 _ _ _⟩,hk1 _ ⟨by rw [AH.set_set]; exact (hB.of_set (hB.none zh)).of_set bl,Zn4 _ _ _,(by simp only [Zn8, *,if_false]<;>rfl),e.out⟩ (fun i b hm hb=>by rw [AH.set_set,Zoa _ _ (fun h=>hm (.inl h)),Zoa _ _ (ZnX hb zh).1]; exact hb)⟩
        ·have e:=Zn0 (show (5:Int)=R by rw [hRk.out]; simp [hj,hka,hj0]);clear hRk
         (repeat' (first | (simp only [↓ZI,ZJ,ptrV,intV,boolV,ZnW,ZnY,reduceCtorEq,ZU,ZM,setAt,ZnZ,undef,JY,Jl,Wk,ZbH,Yc,Wn,Ws,Ye,WL,Zf1,Zaw,XU,ZaC,ZeM,Zdj,ZhC, *]) | (refine Ya rfl (fun _ _ _ h=>h) ?_) | (refine ZS mixed (fun _ _ _ _ e h=>⟨e.trans h.1,h.2⟩) _ (Zn1 _) ?_) | (exact Zn1 _) | (refine Zn3 (c1) ?_) | (refine Zn3 (c2) ?_) | (refine Zn3 (c3) ?_) | (refine Zn3 (c4) ?_) | (with_reducible refine And.intro ?_ ?_)))
         exact ⟨⟨pe,(by simp only [Zn8, *,if_true,if_false]<;>rfl)⟩,hstop.out _ _ e.out (hfl _ _ _ _) (Zn4 _ _ _)⟩
 ·have eb:=ZnX xb hr;have fb:=ZnX xb hl0;rw [Zoa _ _ fb.1,Zoa _ _ eb.1]; exact xb
 ·refine ⟨fun i b hb=>?_,Zn4 _ _ _,?_,hR2.out⟩
  ·have i1:i ≠ l0:=fun h=>by rw [h,bl] at hb; cases hb
   rw [Zoa _ _ i1];by_cases ir:i=r'
   ·subst ir; rw [hHb,Zn4] at hb; rw [Zn4]; exact hb
   ·rw [Zoa _ _ ir];rw [hHb,Zoa _ _ ir,AH.del_get] at hb;split at hb
    ·cases hb
    ·exact hb
  ·rw [Zoa _ _ f4.1,Zoa _ _ e4.1]; exact q4
 ·rintro B u ⟨hB,hBl,h4,hk⟩;refine ⟨.ready,none,hBl,by simp,?_⟩;rw [← p.all_len 0,Zop (Zoc _)] at hk;have hk:R=0:=hk;show ACx _ ZlO _ _ _;have k4:(B.del l0) r4=some (.cells 38 [iV 0] 0):=by rw [Zov _ f4.1]; exact h4
  have kr:(B.del l0) r=some (.obj (.deferred (some []))):=by rw [Zov _ fr.1]; exact hB _ _ br
  have kr':(B.del l0) r'=some (.obj (.deferred (some []))):=by rw [Zov _ (Ne.symm hne)]; exact hB _ _ br'
  have hsB:SubH H0 (B.del l0):=(hsb.trans hB).del gl;generalize B.del l0=B2 at *
  delta ZlO Zr;refine Ya rfl (fun _ _ _ h=>h) ?_;clear hB hBl h4
  (repeat' (first | (simp only [↓ZI,ZJ,ptrV,setAt,Zf1, *])))
  refine Zkx (r:=r) (r':=r') t4 (Zn4 _ _ _) rfl d4r e4.1 er.1 (by simp only [Zn8, *,if_false]<;>rfl) (by simp only [Zn8, *,if_false]<;>rfl) (hsB.of_set g4) gr gr'
 ·rintro k B u ⟨hB,hBl,h4⟩;refine ⟨.done,some .ret,hBl,by simp,?_⟩;show WM Tryz.prog [.cell 4 38] _ t [WS r',WS r] .returning (B.del l0);exact Zkx t4 (by rw [Zov _ f4.1]; exact h4) rfl d4r e4.1 er.1 (by rw [Zov _ fr.1]; exact hB _ _ br) (by rw [Zov _ (Ne.symm hne)]; exact hB _ _ br') ((hsb.trans hB).del gl) gr gr'
theorem Znh (p:Pa) (l:List Co) (hp:p.sz≤1099511627776) (hl:l.length≤1099511627776) (hnm:∀ x∈p.all 0,x.1.name.size≤1099511627776):PureF Tryz.prog 116 [paV p,cosV l] (iV (paChk l p)):=by
 refine Zoj fun H0=>?_
 refine Zbg fd116 (by simp) ?_;delta c116 Zj Zi Zr Zb Zo Zg Zm Zd Zq;obtain ⟨R,hR⟩:∃ R,R=paChk l p:=⟨_,rfl⟩
 rw [← hR];replace hR:=Zn0 hR
 (repeat' (first | (refine Zl3 p (fun rb nb=>?_)) | (simp only [↓WV,↓WW,↓ZbI,↓XA,↓Zgj,↓WX,↓Xe,↓Xf,↓XK,↓XL,↓Zax,↓XM,↓Zay,↓XN,↓We,↓JR,↓ZL,↓Wf,↓JO,↓Jg,↓Zbp,↓WD,↓XY,ptrV,Zou,ZoE,Zox,List.length_nil,ZoP,ZoQ,ZoR,ite_true,ite_false,ZnW,ZnY,true_and,ZoD,ZM,Zn8,setAt,ZoT,List.all_nil,Bool.and_self,eq_self,Zot,ZnZ,Xt,ZlY,ZbN,WB,ZeS,Zo1,↓Jh,Wv,↓Zbq,Zoc,JC,JD,Jo,ZdW,ZdX,undef,Wn,szT_3,zeroT_38,zeroT_3,Zju, *]) | (refine ZK fun zr zh=>?_; have zg:=zh; (try simp only [Zn2] at zg))))
 rename_i r2 n2 n2' r3 n3 n3' r4 n4 n4' r5 n5 n5';simp only [Zn2] at nb;have d56:r5 ≠ zr:=fun h=>zg.1.1 h.symm
 have g2:=n2';have g3:=n3'.2;have g4:=n4'.2.2;have g5:=n5'.2.2.2;have g6:=zg.2.2.2.2
 refine Jz (fun t H=>SubH H0 H∧H r2=some (.cells 74 [bV p.con,sV p.name,encS paE p.kids] 0)∧H r3=some (.cells 41 [cosV l] 0)∧H r4=some (.cells 38 [iV 0] 0)∧H r5=some (.cells 3 [iV 0] 0)∧H zr=some (.cells 3 [iV 0] 0)∧H rb=some (.cells 74 [bV p.con,sV p.name,encS paE p.kids] 0)∧t 2=ptrV r2 0∧t 3=ptrV r3 0∧t 4=ptrV r4 0∧t 5=ptrV r5 0∧t 6=ptrV zr 0∧t 11=.func (.func 141) [] [ptrV rb 0])
  ⟨?_,(by simp only [Zn8, *,if_true,if_false]<;>rfl),(by simp only [Zn8, *,if_true,if_false]<;>rfl),(by simp only [Zn8, *,if_true,if_false]<;>rfl),(by simp only [Zn8, *,if_true,if_false]<;>rfl),(by simp only [Zn8, *,if_true,if_false]<;>rfl),(by simp only [Zn8, *,if_true,if_false]<;>rfl),(by simp only [ZL,ZnW,if_true,if_false, *]<;>rfl),(by simp only [ZL,ZnW,if_true,if_false, *]<;>rfl),(by simp only [ZL,ZnW,if_true,if_false, *]<;>rfl),(by simp only [ZL,ZnW,if_true,if_false, *]<;>rfl),(by simp only [ZL,ZnW,if_true,if_false, *]<;>rfl),(by simp only [ZL,ZnW,if_true,if_false, *]<;>rfl)⟩ ?_
 ·exact (((((((Zn5 g2).of_set g3).of_set g4).of_set g5).of_set g6).of_set g5).of_set g6).of_set (by simp only [nb])
 clear nb n2 n2' n3 n3' n4 n4' n5 n5' zg zh;generalize zr=r6 at *
 rintro t Hx ⟨xs,x2,x3,x4,x5,x6,xb,t2,t3,t4,t5,t6,t11⟩;refine Zbt rfl (.inl t11) (by kernel_rfl) ?_;intro r l0 fn ca cb hca hcb hr hl0 hne hfn;have e5:=ZnX x5 hr;have e6:=ZnX x6 hr;have f5:=ZnX x5 hl0;have f6:=ZnX x6 hl0;obtain ⟨Hb,hHb⟩:∃ Hb,Hb=((Hx.del r5).del r6).set r (.obj (.deferred (some []))):=⟨_,rfl⟩
 have b5:Hb r5=none:=by rw [hHb,Zoa _ _ e5.1,Zov _ d56,AH.del_same]
 have b6:Hb r6=none:=by rw [hHb,Zoa _ _ e6.1,AH.del_same]
 have bl:Hb l0=none:=by rw [hHb,Zoa _ _ hne,Zov _ f6.2,Zov _ f5.2]; exact hl0
 refine allRun (p:=p) (Mut:=fun x=>x=l0∨x=r5∨x=r6) (Inv:=fun k B=>SubH Hb B∧B l0=some (.loop .ready none fn 76 t #[12] ca cb r)∧B r5=some (.cells 3 [iV k] 0)∧B r6=some (.cells 3 [iV (dpL ((p.all 0).take k))] 0)) (Stop:=fun _ _=>False)
  (fun k B B' h hs=>⟨h.1.trans hs,hs _ _ h.2.1,hs _ _ h.2.2.1,hs _ _ h.2.2.2⟩) (fun k B x h hm=>?_) hp ?_ (fun _ _ _=>rfl) rfl rfl (s0:=0) ?_ ?_ ?_ (fun _ _ _ h=>h.elim)
 ·rcases hm with rfl | rfl | rfl
  ·rw [h.2.1]; simp
  ·rw [h.2.2.1]; simp
  ·rw [h.2.2.2]; simp
 ·rintro k hk B ⟨hB,hBl,h5,h6⟩ K' hk1 hk2;have qr:B r=some (.obj (.deferred (some []))):=hB _ _ (by rw [hHb]; exact Zn4 _ _ _);refine Zab (l:=l0) (pe:=none) (fn:=fn) (N:=76) (t:=t) (ps:=#[12]) («asg»:=ca) (bd:=cb) (ds:=r) hBl rfl (by simp) hfn ?_;refine Zdp hca ?_
  (repeat' (first | (simp only [↓ZI,ZJ,ptrV,ZnW,ZnY,Zn7,setAt,Zaz,Zi7,Zfm, *]) | (refine Ya rfl (fun _ _ _ h=>h) ?_) | (refine ZK fun zr zh=>?_; have zg:=zh; (try simp only [Zn2] at zg); (try have zn_h5:=ZnX h5 zh); (try have zn_h5:=ZnX h5 zg.2); (try have zn_h5:=ZnX h5 zg.2.2); (try have zn_h6:=ZnX h6 zh); (try have zn_h6:=ZnX h6 zg.2); (try have zn_h6:=ZnX h6 zg.2.2); (try have zn_qr:=ZnX qr zh); (try have zn_qr:=ZnX qr zg.2); (try have zn_qr:=ZnX qr zg.2.2); (try have zn_hBl:=ZnX hBl zh); (try have zn_hBl:=ZnX hBl zg.2); (try have zn_hBl:=ZnX hBl zg.2.2)) | (with_reducible refine And.intro ?_ ?_)))
  ·exact ⟨none,rfl⟩
  ·intro pe;refine Zdp hcb (Zk5 ?_);have dl5:=f5;have z5:=ZnX h5 zh;have z6:=ZnX h6 zh;have zl:=ZnX hBl zh;obtain ⟨B2,hB2⟩:∃ B2,B2=(B.set zr (.cells 241 [bV (p.all 0)[k].fst.con,sV (p.all 0)[k].fst.name,encS paE (p.all 0)[k].fst.kids,iV (p.all 0)[k].snd] 0)).set l0 (.loop .busy pe fn 76 t #[12] ca cb r):=⟨_,rfl⟩
   have c5:B2 r5=some (.cells 3 [iV k] 0):=by rw [hB2]; exact (by simp only [Zn8, *,if_false]<;>rfl)
   have c6:B2 r6=some (.cells 3 [iV (dpL ((p.all 0).take k))] 0):=by rw [hB2]; exact (by simp only [Zn8, *,if_false]<;>rfl)
   have c7:B2 zr=some (.cells 241 [bV (p.all 0)[k].fst.con,sV (p.all 0)[k].fst.name,encS paE (p.all 0)[k].fst.kids,iV (p.all 0)[k].snd] 0):=by rw [hB2]; exact (by simp only [Zn8, *,if_true,if_false]<;>rfl)
   have cl:B2 l0=some (.loop .busy pe fn 76 t #[12] ca cb r):=by rw [hB2]; exact Zn4 _ _ _
   have d6:(B2.del r5) r6=some (.cells 3 [iV (dpL ((p.all 0).take k))] 0):=by rw [Zov _ (Ne.symm d56)]; exact c6
   have d7:(B2.del r5) zr=some (.cells 241 [bV (p.all 0)[k].fst.con,sV (p.all 0)[k].fst.name,encS paE (p.all 0)[k].fst.kids,iV (p.all 0)[k].snd] 0):=by rw [Zov _ z5.2]; exact c7
   rw [← hB2];replace hB2:=Zn0 hB2
   obtain ⟨Hi,i0,i1,i2,i3,i4,i5,i6,i7,i8,hsub,hkeep⟩:∃ Hi:Nat→AH,Hi 0=B2∧Hi 1=B2∧Hi 2=B2.del r5∧Hi 3=B2.del r5∧Hi 4=B2.del r5∧Hi 5=B2.del r5∧Hi 6=B2.del r5∧Hi 7=B2.del r5∧Hi 8=B2.del r5∧(∀ k,SubH (Hi k) B2)∧∀ k∈[2,3,4,5,6,7,8],∀ b,SubH (Hi k) (B2.set r5 b) :=
    ⟨fun i=>if i < 2 then B2 else B2.del r5,rfl,rfl,rfl,rfl,rfl,rfl,rfl,rfl,rfl,fun k=>by
      show SubH (if k < 2 then B2 else B2.del r5) B2;split
      ·exact Zn1 _
      ·intro i b hb; rw [AH.del_get] at hb; split at hb; cases hb; exact hb,fun k hk b=>by
      show SubH (if k < 2 then B2 else B2.del r5) _;rw [if_neg (by simp at hk; omega)];intro i b' hb; rw [AH.del_get] at hb; split at hb; cases hb;rw [Zoa _ _ (by assumption)]; exact hb⟩
   refine Zfn mixed (fun _ _ _ _ e h=>⟨e.trans h.1,h.2⟩) Hi hsub ?_;have har:=p.all_around 0 _ (Zn9 hk);have hdp:dpL ((p.all 0).take (k + 1))=max (dpL ((p.all 0).take k)) ((p.all 0)[k].2 + 1):=by rw [YL hk,dpL_snoc]
   have hkl:=p.all_len 0;replace hdp:=Zn0 hdp;generalize (p.all 0)[k]=x at *
   have w1:IntKind.i64.wrap ((k:Int) + 1)=((k + 1:Nat):Int):=by rw [ZR (by omega) (by omega)]; simp
   have w2:IntKind.i64.wrap (x.snd + 1)=x.snd + 1:=ZR (by omega) (by omega);have d65:¬ r6=r5:=Ne.symm d56;clear hkl
   (repeat' (first | (simp only [↓ZI,ZJ,ptrV,ZnW,ZnY,setAt,ZnZ,vcMax,forall_const,p2_fin,p2_pl2K,p2_tkN,p2_oneN,p2_one2K,Zm4,Yc,szT_3, *]) | (with_reducible refine And.intro ?_ ?_)))
   ·exact fun k hk=>hkeep k hk _
   ·have hfin:∀ (v:Int) i b,¬ (i=l0∨i=r5∨i=r6)→B i=some b→(((B2.set r5 (.cells 3 [iV ((k + 1:Nat):Int)] 0)).set r6 (.cells 3 [iV v] 0)).set l0 (.loop .ready none fn 76 t #[12] ca cb r)) i=some b:=fun v i b hm hb=>by
     have m1:i ≠ l0:=fun h=>hm (.inl h)
     have m2:i ≠ r5:=fun h=>hm (.inr (.inl h))
     have m3:i ≠ r6:=fun h=>hm (.inr (.inr h))
     rw [Zoa _ _ m1,Zoa _ _ m3,Zoa _ _ m2,hB2.out,Zoa _ _ m1,Zoa _ _ (ZnX hb zh).1];exact hb
    have hmx:(if x.snd + 1 > dpL ((p.all 0).take k) then x.snd + 1 else dpL ((p.all 0).take k))=dpL ((p.all 0).take (k + 1)):=by rw [hdp.out]; split<;>omega
    rw [hmx];refine ⟨⟨pe,(by simp only [Zn8, *,if_false]<;>rfl)⟩,hk1 _ ⟨fun i b hb=>hfin _ i b (fun h=>?_) (hB i b hb),Zn4 _ _ _,(by simp only [Zn8, *,if_true,if_false]<;>rfl),(by simp only [Zn8, *,if_true,if_false]<;>rfl)⟩ (fun i b hm hb=>hfin _ i b hm hb)⟩
    ·rcases h with rfl | rfl | rfl
     ·rw [bl] at hb; cases hb
     ·rw [b5] at hb; cases hb
     ·rw [b6] at hb; cases hb
 ·have eb:=ZnX xb hr;have fb:=ZnX xb hl0;rw [Zoa _ _ fb.1,Zoa _ _ eb.1]; exact xb
 ·refine ⟨fun i b hb=>?_,Zn4 _ _ _,?_,?_⟩
  ·have i1:i ≠ l0:=fun h=>by rw [h,bl] at hb; cases hb
   rw [Zoa _ _ i1];by_cases ir:i=r
   ·subst ir; rw [hHb,Zn4] at hb; rw [Zn4]; exact hb
   ·rw [Zoa _ _ ir];rw [hHb,Zoa _ _ ir,AH.del_get] at hb;split at hb
    ·cases hb
    ·rw [AH.del_get] at hb;split at hb
     ·cases hb
     ·exact hb
  ·rw [Zoa _ _ f5.1,Zoa _ _ e5.1]; exact x5
  ·rw [Zoa _ _ f6.1,Zoa _ _ e6.1]; exact x6
 ·rintro B u ⟨hB,hBl,h5,h6⟩;refine ⟨.ready,none,hBl,by simp,?_⟩;rw [← p.all_len 0,Zos (Zoc _)] at h6
  have hsB:∀ i b,H0 i=some b→(B.del l0) i=some b:=fun i b h=>by
   have hx:=xs _ _ h;have i1:i ≠ l0:=fun e=>by rw [e,hl0] at hx; cases hx
   have i2:i ≠ r:=fun e=>by rw [e,hr] at hx; cases hx
   have i3:i ≠ r5:=fun e=>by rw [e,g5] at h; cases h
   have i4:i ≠ r6:=fun e=>by rw [e,g6] at h; cases h
   rw [Zov _ i1];refine hB _ _ ?_;rw [hHb,Zoa _ _ i2,Zov _ i4,Zov _ i3];exact hx
  have hsX:∀ i b,i ≠ r5→i ≠ r6→Hx i=some b→(B.del l0) i=some b:=fun i b i3 i4 hx=>by
   have i1:i ≠ l0:=fun e=>by rw [e,hl0] at hx; cases hx
   have i2:i ≠ r:=fun e=>by rw [e,hr] at hx; cases hx
   rw [Zov _ i1];refine hB _ _ ?_;rw [hHb,Zoa _ _ i2,Zov _ i4,Zov _ i3];exact hx
  have q5:(B.del l0) r5=some (.cells 3 [iV p.sz] 0):=by rw [Zov _ f5.1]; exact h5
  have q6:(B.del l0) r6=some (.cells 3 [iV (dpL (p.all 0))] 0):=by rw [Zov _ f6.1]; exact h6
  have qr:(B.del l0) r=some (.obj (.deferred (some []))):=by rw [Zov _ (Ne.symm hne)]; exact hB _ _ (by rw [hHb]; exact Zn4 _ _ _)
  clear h5 h6 hBl;show ACx _ Zjw _ _ _;have y2:∀ r2 e v,Hx r2=some (.cells e v 0)→¬ e=3→r2 ≠ r5∧r2 ≠ r6:=fun r2 e v h he=>⟨fun e'=>by rw [e',x5] at h; simp only [Option.some.injEq,Blk.cells.injEq] at h; exact he h.1.symm,fun e'=>by rw [e',x6] at h; simp only [Option.some.injEq,Blk.cells.injEq] at h; exact he h.1.symm⟩
  exact pcheck2 hp hl hnm hR.out hsB (hsX _ _ (y2 _ _ _ x2 (by decide)).1 (y2 _ _ _ x2 (by decide)).2 x2) (hsX _ _ (y2 _ _ _ x3 (by decide)).1 (y2 _ _ _ x3 (by decide)).2 x3) (hsX _ _ (y2 _ _ _ x4 (by decide)).1 (y2 _ _ _ x4 (by decide)).2 x4) q5 q6 qr g4 (xs.none hr) t2 t3 t4 t5 t6
end Go.PV.YtglpmlbbaedbiaaGreat
end
section
open Go.PV.AH renaming set_none→Zn2,set_same→Zn4
open Go.PV.GhL renaming cons→Zod
open Go.PV.GhV renaming forget→Zoi
open Go.PV.PureF renaming forget→Zoj,use→Zn3
open Go.PV.SubH renaming refl→Zn1,new→Zn5
open List renaming drop_eq_getElem_cons→Zoz,drop_eq_nil_of_le→Zop,take_append_drop→ZoU,length_take→ZoF,take_of_length_le→Zos,getElem_mem→Zn9,drop→ZnZ,eq_nil_of_length_eq_zero→ZoM,length_append→Zow
open Nat renaming reduceLT→ZnY,reduceEqDiff→ZnW,reduceLeDiff→Zof,le_refl→Zoc
open Option renaming map_none→ZoC,map_some→Zog
set_option maxRecDepth 20000
set_option maxHeartbeats 4000000
namespace Go.PV.YtglpmlbbaedbiaaGreat
open Go Go.Proofs
def hasF (l:List ByteArray) (s:ByteArray):Bool:=l.any fun x=>decide (x=s)
theorem WI {l:List ByteArray} {s:ByteArray}:hasF l s=true↔s∈l:=by simp [hasF]
theorem Zc5 {l:List ByteArray} {s:ByteArray} {i:Nat} (h:i < l.length):hasF (l.drop i) s=(decide (l[i]=s) || hasF (l.drop (i + 1)) s):=by unfold hasF; rw [Zoz h,List.any_cons]
theorem ZmI (l:List ByteArray) (s:ByteArray) (hl:l.length≤1099511627776):PureF Tryz.prog 92 [strsV l,sV s] (boolV (hasF l s)):=by
 refine Zoj fun H=>?_
 refine ZN fd92 (by simp) ?_;delta c92 Zq Zf
 (repeat' (first | (simp only [↓ZI,ZJ,boolV,ZnY,ZM,undef, *])))
 refine ZW (fun _ _ _ h=>h) (fun A H'=>H'=H∧A.d=[]∧A.t 0=strsV l∧A.t 1=sV s∧∃ (i:Nat),i≤l.length∧A.t 5=iV i∧hasF l s=hasF (l.drop i) s)
  (fun A _=>match A.t 5 with | .lit (.int _ i)=>((l.length:Int) - i).toNat | _=>0) ?_ ?_
 ·exact ⟨rfl,rfl,rfl,rfl,0,by omega,rfl,rfl⟩
 ·rintro ⟨t,d⟩ H' ⟨rfl,rfl,h0,h1,i,hi,h5,hh⟩;dsimp only at h0 h1 h5;rw [hh];clear hh;delta b92_1 Za Ze Zn Zr Zk Zb Zq Zm Zc
  (repeat' (first | (simp only [↓ZI,ZJ,↓Xd,intV,ZnW,ZnY,reduceCtorEq,Zar,Ye,YH, *]) | (refine ZY ?_ ?_<;>intro) | (refine ZP ?_) | (refine Ya rfl (fun _ _ _ h=>h) ?_) | (exact Zn1 _) | (with_reducible refine And.intro ?_ ?_)))
  ·have hlt:i < l.length:=by assumption
   have he:l[i]=s:=by assumption
   rw [Zc5 hlt,decide_eq_true he,Bool.true_or]
  ·have hlt:i < l.length:=by assumption
   have he:¬ l[i]=s:=by assumption
   rw [ZR (n:=(i:Int) + 1) (by omega) (by omega)];exact ⟨i + 1,by omega,rfl,by rw [Zc5 hlt,decide_eq_false he,Bool.false_or]⟩
  ·rw [ZR (n:=(i:Int) + 1) (by omega) (by omega)];omega
  ·rw [Zop (by omega)];delta c92_1 Zq
   (repeat' (first | (simp only [↓ZI,ZJ,ZnW,ZnY, *]) | (refine ZP ?_)))
   exact ⟨rfl,Zn1 _⟩
theorem Zni (l:List ByteArray) (hl:l.length≤1099511627776):PureF Tryz.prog 107 [strsV l] (boolV (!decide l.Nodup)):=by
 refine Zoj fun H=>?_
 refine ZN fd107 (by simp) ?_;delta c107 Zq Zf
 (repeat' (first | (simp only [↓ZI,ZJ,boolV,ZnY,ZM,undef, *])))
 refine ZW (fun _ _ _ h=>h) (fun A H'=>H'=H∧A.d=[]∧A.t 0=strsV l∧∃ (i:Nat),i≤l.length∧A.t 3=iV i∧(l.take i).Nodup)
  (fun A _=>match A.t 3 with | .lit (.int _ i)=>((l.length:Int) - i).toNat | _=>0) ?_ ?_
 ·exact ⟨rfl,rfl,rfl,0,by omega,rfl,by simp⟩
 ·rintro ⟨t,d⟩ H' ⟨rfl,rfl,h0,i,hi,h3,hnd⟩;dsimp only at h0 h3
  have hcall:∀ (h:i < l.length) (K:VE→AH→Prop),K (.ret (boolV (hasF (l.take i) l[i]))) H'→Yh Tryz.prog 92 [.slice false i (encC strE l),sV l[i]] H' K:=fun h K hK=>by
   have e:encC strE l=encC strE (l.take i) ++ encC strE (l.drop i):=by rw [← Yo,ZoU]
   rw [e];refine YM (Zod (GhV.trunc _ _ _ _ _) (GhL.refl _ _)) ?_;have el:(l.take i).length=i:=by rw [ZoF]; omega
   rw [show VV.slice false i (encC strE (l.take i))=strsV (l.take i) from by rw [strsV,encS,el]];exact (ZmI (l.take i) l[i] (by omega)).use hK
  delta b107_1 Za Ze Zn Zr Zq Zk Zb Zo Zm Zc
  (repeat' (first | (simp only [↓ZI,ZJ,intV,boolV,ZnW,ZnY,reduceCtorEq,Zar,YB,ZoC,Zog,YV,idxV,idxOk,Nat.sub_zero,Ye,YH,ZhU, *]) | (refine ZY ?_ ?_<;>intro) | (refine Ym ?_ ?_<;>intro) | (refine ZP ?_) | (refine Ya rfl (fun _ _ _ h=>h) ?_) | (refine ZS mixed (fun _ _ _ _ e h=>⟨e.trans h.1,h.2⟩) _ (Zn1 _) ?_) | (exact Zn1 _) | (refine hcall (by assumption) _ ?_) | (with_reducible refine And.intro ?_ ?_)))
  ·exact fun _=>trivial
  ·omega
  ·have hlt:i < l.length:=by assumption
   have hh:l[i]∈l.take i:=WI.1 (by assumption)
   have hnn:decide l.Nodup=false:=by
    rw [decide_eq_false_iff_not];intro h
    have:=Zb6 h (i + 1)
    rw [YL hlt,JT] at this;exact this.2 hh
   rw [hnn]; rfl
  ·have hlt:i < l.length:=by assumption
   have hh:¬ l[i]∈l.take i:=fun h=>by
    have:=WI.2 h
    rw [(by assumption:hasF (l.take i) l[i]=false)] at this; cases this
   rw [ZR (n:=(i:Int) + 1) (by omega) (by omega)];exact ⟨i + 1,by omega,rfl,by rw [YL hlt,JT]; exact ⟨hnd,hh⟩⟩
  ·rw [ZR (n:=(i:Int) + 1) (by omega) (by omega)];omega
  ·rw [Zos (by omega)] at hnd;have hnn:decide l.Nodup=true:=decide_eq_true hnd;delta c107_1 Zq
   (repeat' (first | (simp only [↓ZI,ZJ,ZnW,ZnY, *]) | (refine ZP ?_) | (exact Zn1 _)))
theorem Znj (p:Pa):p.sz≤1099511627776→PureF Tryz.prog 106 [paV p] (strsV p.names):=by
 refine Pa.ind (p:=fun p=>p.sz≤1099511627776→PureF Tryz.prog 106 [paV p] (strsV p.names)) (fun p ih hs=>?_) p;have ih':∀ i (h:i < p.kids.length),PureF Tryz.prog 106 [paV p.kids[i]] (strsV p.kids[i].names):=fun i h=>ih _ (Zn9 h) (by have:=YP (Zn9 h); have:=p.sz_eq; omega)
 have z1:=p.sz_eq;have z2:=YZ p.kids;have hk:∀ i (h:i < p.kids.length),p.kids[i].names.length≤1099511627776:=fun i h=>by have:=YP (Zn9 h); have:=p.kids[i].names_len; omega
 have htk:∀ i,(ZT (p.kids.take i)).length≤1099511627776:=fun i=>by have:=Xm (p.kids.take i); have:=Jq p.kids i; omega
 have hN:p.kids.length≤1099511627776:=by omega
 clear ih z1 z2 hs;rw [p.names_eq];refine Xo.pure fun H=>?_
 refine ZN fd106 (by simp) ?_;delta c106 Zj Zq Zd Zb Zr Zc Zf;by_cases hc:p.con=true
 ·rw [if_pos hc]
  (repeat' (first | (simp only [↓ZI,ZJ,ptrV,ZnW,ZnY,Zof,ZM,fillV,ZnZ,undef,ZQ,ZQ,Xx,JQ,YH,Xr, *]) | (refine ZK fun zr zh=>?_; have zg:=zh; (try simp only [Zn2] at zg))))
  refine ZW (fun _ _ _ h=>h) (fun A H'=>A.d=[]∧A.t 1=ptrV zr 0∧∃ (i:Nat),i≤p.kids.length∧A.t 4=iV i∧OutE (H.set zr (.cells 126 [bV true,sV p.name,encS paE p.kids] 0)) H' 9 1 (A.t 3) (ZT (p.kids.take i)).length (encC strE (ZT (p.kids.take i))))
   (fun A _=>match A.t 4 with | .lit (.int _ i)=>((p.kids.length:Int) - i).toNat | _=>0) ?_ ?_
  ·exact ⟨rfl,(by simp only [ZL,ZnW,if_true,if_false, *]<;>rfl),0,by omega,(by simp only [ZL,ZnW,if_true,if_false, *]<;>rfl),OutE.start (Zn1 _)⟩
  ·rintro ⟨t,d⟩ H' ⟨rfl,h1,i,hi,h4,ho⟩;dsimp only at h1 h4 ho;have k1:=ho.sub _ _ (Zn4 _ _ _);delta b106_1 Za Zd Zb Ze Zn Zr Zk Zo Zl Zc Zm;have hti:=htk i
   (repeat' (first | (simp only [↓ZI,ZJ,ptrV,intV,ZnW,ZnY,reduceCtorEq,ZnZ,XQ,Xa,YS,Jc,YG,en_106, *]) | (refine ZY ?_ ?_<;>intro) | (refine Zn3 (ih' _ (by assumption)) ?_)))
   ·have hlt:i < p.kids.length:=by assumption
    have hki:=hk i hlt;have e:ZT (p.kids.take (i + 1))=ZT (p.kids.take i) ++ p.kids[i].names:=WC hlt;refine ho.append YH Xr rfl (by omega) (XZ (enc:=strE) (k:=1) (fun _=>rfl) _ false _) (Xv Ze7 _) (by omega) (by omega) (fun h0=>by rw [ZoM h0]; rfl) (fun v' H'' ho2=>?_);rw [← Yo,← Zow,← e] at ho2
    (repeat' (first | (simp only [↓ZI,ZJ,ptrV,ZnW,ZnY, *]) | (with_reducible refine And.intro ?_ ?_)))
    all_goals rw [ZR (n:=(i:Int) + 1) (by omega) (by omega)]
    ·exact ⟨i + 1,by omega,rfl,ho2⟩
    ·omega
   ·have hie:i=p.kids.length:=by omega
    subst hie;rw [Zos (Zoc _)] at ho;refine Ya rfl (fun _ _ _ h=>h) ?_;delta c106_1 Za Zc
    (repeat' (first | (simp only [↓ZI,ZJ,ZnW,ZnY, *]) | (refine ZP ?_)))
    exact ⟨_,rfl,ho.back.trans (Zoi (Zn5 zh) _)⟩
 ·have hc':p.con=false:=by simpa using hc
  rw [if_neg hc]
  (repeat' (first | (simp only [↓ZI,ZJ,ptrV,ZnW,ZnY,Zof,ZM,fillV,setAt,ZnZ,undef,ZQ,ZQ,Xx,XJ,JQ,Ye,YH,Xr, *]) | (refine ZP ?_) | (refine ZK fun zr zh=>?_; have zg:=zh; (try simp only [Zn2] at zg))))
  exact ⟨_,rfl,(GhV.imm _).trans (Zoi (Zn5 zh) _)⟩
end Go.PV.YtglpmlbbaedbiaaGreat
end
section
open Go.PV.AH renaming set_none→Zn2
open Go.PV.Hold renaming mk→Zn0
open Go.PV.PureF renaming forget→Zoj,use→Zn3
open Go.PV.SubH renaming new→Zn5,of_set→Zn6,refl→Zn1
open Int renaming reduceNeg→ZoA,reduceEq→Zoh
open List renaming getElem_mem→Zn9,drop→ZnZ,drop_eq_nil_of_le→Zop
open Nat renaming reduceEqDiff→ZnW,reduceLT→ZnY,reduceAdd→Zn7,lt_or_ge→Zoy
open Option renaming bind_some→Zol,map_some→Zog
set_option maxRecDepth 20000
set_option maxHeartbeats 4000000
namespace Go.PV.YtglpmlbbaedbiaaGreat
open Go Go.Proofs
theorem csize_ok (e:Ex):e.sz≤1152921504606846976→PureF Tryz.prog 118 [exV e] (.tuple [iV e.sz,iV e.dp]):=by
 refine Ex.ind (p:=fun e=>e.sz≤1152921504606846976→PureF Tryz.prog 118 [exV e] (.tuple [iV e.sz,iV e.dp])) (fun e ih hs=>?_) e;have hz:=e.sz_eq;have hl:=YC e.kids;have ih':∀ i (h:i < e.kids.length),PureF Tryz.prog 118 [exV e.kids[i]] (.tuple [iV e.kids[i].sz,iV e.kids[i].dp]):=fun i h=>ih _ (Zn9 h) (by have:=Yl (Zn9 h); omega)
 clear ih;refine Zoj fun H=>?_
 refine ZN fd118 (by simp) ?_;delta c118 Zj Zf Zd Zb Ze Zq;obtain ⟨N,D,hN,hD,hNs,hlN⟩:∃ N D,e.sz=N∧e.dp=D∧N≤1152921504606846976∧e.kids.length≤N:=⟨_,_,rfl,rfl,hs,by omega⟩
 have hDN:D≤N:=by have:=e.dp_le; omega
 have h0:1 + exsSz e.kids=N:=by omega
 have h1:exsDp e.kids + 1=D:=by rw [← hD,e.dp_eq]
 rw [hN,hD];clear hs hl hz hN hD
 (repeat' (first | (simp only [↓ZI,ZJ,ptrV,intV,ZnW,ZnY,reduceCtorEq,ZM,ZnZ,undef,Yj,Yz,Yn, *]) | (refine ZK fun zr zh=>?_; have zg:=zh; (try simp only [Zn2] at zg))))
 refine ZW (fun _ _ _ h=>h) (fun A H'=>SubH H H'∧A.d=[]∧A.t 9=exsV e.kids∧A.t 10=iV e.kids.length∧∃ (i n d:Nat),i≤e.kids.length∧A.t 11=iV i∧A.t 2=iV n∧A.t 3=iV d∧n + exsSz (e.kids.drop i)=N∧max d (exsDp (e.kids.drop i)) + 1=D)
  (fun A _=>match A.t 11 with | .lit (.int _ i)=>((e.kids.length:Int) - i).toNat | _=>0) ?_ ?_
 ·exact ⟨Zn5 zh,rfl,rfl,rfl,0,1,0,by omega,rfl,rfl,rfl,h0,by simpa using h1⟩
 ·clear h0 h1;rintro ⟨t,d⟩ H' ⟨hs',rfl,h9,h10,i,n,d,hi,h6,h4,h5,hn,hdd⟩;dsimp only at h9 h10 h4 h5 h6;delta b118_1 Zn Zr Zk Zb Zi Zg Zo Za Zh Zc Zq Zm
  (repeat' (first | (simp only [↓ZI,ZJ,ZV,ptrV,ZnW,ZnY,Zn7,setAt,ZnZ,vcMax,XB,Yt,YD,Ys,Yn,ZlI, *]) | (refine ZY ?_ ?_<;>intro) | (refine Ya rfl (fun _ _ _ h=>h) ?_) | (refine ZK fun zr zh=>?_; have zg:=zh; (try simp only [Zn2] at zg)) | (refine Zn6 ?_ ?_) | (exact SubH.none (by assumption) (by assumption)) | (refine Zn3 (ih' _ (by assumption)) ?_) | (with_reducible refine And.intro ?_ ?_)))
  ·rename_i hlt;have e1:=Zb3 hlt;rw [ZR (n:=(i:Int) + 1) (by omega) (by omega),ZR (n:=(n:Int) + (e.kids[i].sz:Int)) (by omega) (by omega)];exact ⟨i + 1,n + e.kids[i].sz,max d e.kids[i].dp,by omega,rfl,by simp,by simp; split<;>omega,by omega,by rw [Zb4 hlt] at hdd; omega⟩
  ·rename_i hlt;rw [ZR (n:=(i:Int) + 1) (by omega) (by omega)];omega
  ·rename_i hlt;rw [Zop (by omega)] at hn hdd;delta c118_1 Za Zm Zc;have hn':N=n:=by simpa [exsSz] using hn.symm
   have hd':D=d + 1:=by simpa [exsDp] using hdd.symm
   subst hn'; subst hd'
   (repeat' (first | (simp only [↓ZI,ZJ,ZnW,ZnY, *])))
   rw [ZR (n:=(d:Int) + 1) (by omega) (by omega)];exact Yk rfl (by simp only [resV,YO,YN,ZL,ZnW,if_true,if_false,Zol,Zog,tupV, *]<;>rfl) ⟨rfl,hs'⟩
theorem Znk (l:List ByteArray) (s:ByteArray) (hl:l.length≤1099511627776):PureF Tryz.prog 121 [strsV l,sV s] (iV (idxF (fun x=>decide (s=x)) l)):=by
 refine Zoj fun H=>?_
 refine ZN fd121 (by simp) ?_;delta c121 Zf Za Ze Zq
 (repeat' (first | (simp only [↓ZI,ZJ,intV,ZnW,ZnY,reduceCtorEq,ZM,undef,YH, *])))
 refine ZW (fun _ _ _ h=>h) (fun A H'=>H'=H∧A.d=[]∧A.t 0=strsV l∧A.t 1=sV s∧A.t 7=iV l.length∧∃ i:Nat,i≤l.length∧A.t 8=iV i∧∀ j (h:j < l.length),j < i→decide (s=l[j])=false)
  (fun A _=>match A.t 8 with | .lit (.int _ i)=>((l.length:Int) - i).toNat | _=>0) ?_ ?_
 ·exact ⟨rfl,rfl,rfl,rfl,rfl,0,by simp,rfl,by simp⟩
 ·rintro ⟨t,d⟩ H' ⟨rfl,rfl,h0,h1,h7,i,hi,h8,hj⟩;dsimp only at h0 h1 h7 h8;replace hj:=Zn0 hj;delta b121_1 Zn Zr Za Zc Zk Zb Zm;by_cases hlt:i < l.length
  ·have hil:(i:Int) < (l.length:Int):=by omega
   have hdi:=Zar hlt
   (repeat' (first | (simp only [↓ZI,ZJ,↓Xd,ZnW,ZnY,reduceCtorEq,Ye,YH, *]) | (refine ZY ?_ ?_<;>intro) | (refine ZP ?_) | (exact Zn1 _) | (with_reducible refine And.intro ?_ ?_)))
   ·have hs:s=l[i]:=by assumption
    rw [XP (p:=fun x=>decide (l[i]=x)) hlt (decide_eq_true rfl) (fun j h=>by have:=hj.out j (by omega) h; rw [hs] at this; exact this)]
   ·rw [ZR (by omega) (by omega)];refine ⟨i + 1,by omega,by simp,fun j h h'=>?_⟩;rcases Zoy j i with h2 | h2
    ·exact hj.out j h h2
    ·obtain rfl:j=i:=by omega
     exact decide_eq_false (by assumption)
   ·rw [ZR (by omega) (by omega)];omega
  ·have hil:¬ (i:Int) < (l.length:Int):=by omega
   have hno:idxF (fun x=>decide (s=x)) l=-1:=Wp fun j h=>hj.out j h (by omega)
   (repeat' (first | (simp only [↓ZI,ZJ,ZnY,ZoA, *]) | (refine Ya rfl (fun _ _ _ h=>h) ?_)))
   delta c121_1 Zq
   (repeat' (first | (simp only [↓ZI,ZJ,ZnW,ZnY,ZoA, *]) | (refine ZP ?_) | (exact Zn1 _)))
theorem Zik (l:List ByteArray) (s:ByteArray) (hl:l.length≤1099511627776):PureF Tryz.prog 81 [strsV l,sV s] (boolV (hasF l s)):=by
 have hi:=Znk l s hl
 have e:decide (0≤idxF (fun x=>decide (s=x)) l)=hasF l s:=by
  rw [Zha,hasF]
  congr 1
  funext x
  exact decide_eq_decide.2 ⟨Eq.symm,Eq.symm⟩
 rw [← e];refine Zoj fun H=>?_
 refine ZN fd81 (by simp) ?_;delta c81 Zq Za Zo Zr Zm Zc;clear e
 (repeat' (first | (simp only [↓ZI,ZJ,boolV,ZnW,ZnY,reduceCtorEq,ZM,undef,en_121, *]) | (refine ZP ?_) | (exact Zn1 _) | (refine Zn3 (hi) ?_)))
def misF (e:Ex):Bool :=
 if e.op=1∨e.op=2 then decide (0 < (e.kids.length:Int)) || !nameB e.name
 else if e.op=3 then !nameB e.name
 else if e.op=4 then decide ((e.kids.length:Int) < 2) || !decide (e.name={ data:=#[] })
 else if e.op=5 then !decide ((e.kids.length:Int)=1) || !nameB e.name
 else true
theorem ZiO (e:Ex) (hn:e.name.size≤1099511627776):PureF Tryz.prog 139 [exV e] (boolV (misF e)):=by
 have hc:=Zc3 e.name hn;refine Zoj fun H=>?_
 refine ZN fd139 (by simp) ?_;delta c139 Zj Zq Zd Zb Ze Zc Zm Zr Za Zp Zo;unfold misF;generalize nameB e.name=nb at *
 (repeat' (first | (simp only [↓ZI,ZJ,↓XF,ptrV,intV,boolV,ZnW,ZnY,Bool.true_or,Bool.false_or,reduceCtorEq,ZU,ZM,ZnZ,undef,Zoh,Yj,Yg,Yw,Yz,Yc,Ye,Yn,ZeM, *]) | (refine YU ?_ ?_<;>intro) | (refine ZY ?_ ?_<;>intro) | (refine Zdl ?_ ?_<;>intro) | (refine ZP ?_) | (refine ZK fun zr zh=>?_; have zg:=zh; (try simp only [Zn2] at zg)) | (exact Zn1 _) | (refine Zn6 ?_ ?_) | (refine Zn3 (hc) ?_) | (with_reducible refine And.intro ?_ ?_)))
 all_goals (clear hc; simp [*])
end Go.PV.YtglpmlbbaedbiaaGreat
end
section
open Go.PV.AH renaming set_none→Zn2,ne_of→ZnX,set_ne→Zoa,set_same→Zn4
open Go.PV.Hold renaming mk→Zn0
open Go.PV.SubH renaming new→Zn5,refl→Zn1
open List renaming length_append→Zow,drop_eq_getElem_cons→Zoz,drop→ZnZ,getElem_mem→Zn9,take_of_length_le→Zos
open Nat renaming reduceEqDiff→ZnW,reduceLT→ZnY,reduceAdd→Zn7,reduceLeDiff→Zof,le_refl→Zoc,zero_add→Zot
set_option maxRecDepth 20000
set_option maxHeartbeats 4000000
namespace Go.PV.YtglpmlbbaedbiaaGreat
open Go Go.Proofs
section
variable {y:VV} {ry rw sp sp':Nat} {L:List Pl} {Inv:Nat→AH→AH→Prop} {Stop:Nat→AH→Prop}
theorem walk2 (hsub:∀ k Hb B,Inv k Hb B→SubH Hb B) (hal:∀ k Hb B z b,Inv k Hb B→B z=none→Inv k (Hb.set z b) (B.set z b))
 (hy:∀ k (h:k < L.length) Hb B,Inv k Hb B→∀ K':VE→AH→Prop,(∀ B',Inv (k + 1) Hb B'→K' (.ret (boolV true)) B')→(∀ B',Stop k B'→K' (.ret (boolV false)) B')→ACall Tryz.prog none y [plV L[k]] B K')
 (hyl:∀ B xs K',Wc Tryz.prog none y xs B K'=ACall Tryz.prog none y xs B K') :
 ∀ (n:Nat) (p:Pa) (a:Int) (k:Nat) (M:List Pl) (Hb B:AH) (K:VE→AH→Prop),p.sz < n→L.drop k=p.all a ++ M→p.sz≤1099511627776→0≤a→a + p.sz≤2199023255552→Inv k Hb B →
 Hb ry=some (.cells 245 [y] sp)→Hb rw=some (.cells 246 [.func (.func 142) [] [ptrV ry 0,ptrV rw 0]] sp') →
 (∀ Hb' B',Inv (k + p.sz) Hb' B'→SubH Hb Hb'→K (.ret (boolV true)) B')→(∀ j B',Stop j B'→K (.ret (boolV false)) B')→Yh Tryz.prog 142 [paV p,iV a,ptrV ry 0,ptrV rw 0] B K:=by
 intro n
 induction n with
 | zero=>intro p a k M Hb B K h; omega
 | succ n ih =>
   intro p a k M Hb B K h0 hL hs ha0 ha hI by0 bw0 hT hF;have hsI:=hsub _ _ _ hI;have by_:=hsI _ _ by0;have bw:=hsI _ _ bw0;refine ZN fd142 (by simp) ?_;delta c142 Zj Zq Zb Zr Za Zp Zc
   have hk:k < L.length:=by
    have:=congrArg List.length hL
    rw [List.length_drop,Zow,p.all_len] at this
    have:=p.sz_pos
    omega
   have hLk:L[k]=(p,a):=by
    rw [Zoz hk,p.all_eq] at hL;exact (List.cons.inj hL).1
   have hyk:=hy k hk;rw [hLk] at hyk;clear hLk hk;replace hT:=Zn0 hT;replace hF:=Zn0 hF;replace hL:=Zn0 hL
   (repeat' (first | (simp only [↓ZI,ZJ,ptrV,ZnW,ZnY,Zn7,Zof,ZM,ZX,fillV,setAt,ZnZ,undef,ZX,Zmr,Wn,Yc,Zms, *]) | (refine ZK fun zr zh=>?_; have zg:=zh; (try simp only [Zn2] at zg); (try have zn_by_:=ZnX by_ zh); (try have zn_by_:=ZnX by_ zg.2); (try have zn_by_:=ZnX by_ zg.2.2); (try have zn_bw:=ZnX bw zh); (try have zn_bw:=ZnX bw zg.2); (try have zn_bw:=ZnX bw zg.2.2))))
   rename_i r4 n4 n4' zz1 zz2;have hI1:=hal _ _ _ zr (.cells 3 [iV a] 0) (hal _ _ _ r4 (.cells 74 [bV p.con,sV p.name,encS paE p.kids] 0) hI n4) zh;have hb4:Hb r4=none:=hsI.none n4;have hb5:Hb zr=none:=hsI.none zg.2;have d45:¬ r4=zr:=zg.1.2;obtain ⟨Hc,hHc⟩:∃ Hc,Hc=(Hb.set r4 (.cells 74 [bV p.con,sV p.name,encS paE p.kids] 0)).set zr (.cells 3 [iV a] 0):=⟨_,rfl⟩
   have hbc:SubH Hb Hc:=by rw [hHc]; exact (Zn5 hb4).of_set hb5
   have x4:Hc r4=some (.cells 74 [bV p.con,sV p.name,encS paE p.kids] 0):=by rw [hHc,Zoa _ _ d45]; exact Zn4 _ _ _
   have x5:Hc zr=some (.cells 3 [iV a] 0):=by rw [hHc]; exact Zn4 _ _ _
   have xy:=hbc _ _ by0;have xw:=hbc _ _ bw0;rw [← hHc] at hI1;show ACall Tryz.prog none y _ ((B.set r4 (.cells 74 [bV p.con,sV p.name,encS paE p.kids] 0)).set zr (.cells 3 [iV a] 0)) _;generalize (B.set r4 (.cells 74 [bV p.con,sV p.name,encS paE p.kids] 0)).set zr (.cells 3 [iV a] 0)=B1 at *
   refine hyk Hc B1 hI1 _ (fun B' hB=>?_) (fun B' hB=>?_)
   ·have hsB:=hsub _ _ _ hB;have q4:=hsB _ _ x4;have q5:=hsB _ _ x5;have qy:=hsB _ _ xy;have qw:=hsB _ _ xw
    have hw:∀ (K':VE→AH→Prop),(∀ Hd B'',Inv (k + p.sz) Hd B''→SubH Hc Hd→K' (.ret (boolV false)) B'')→(∀ j B'',Stop j B''→K' (.ret (boolV true)) B'')→Yh Tryz.prog 143 [pasV p.kids,.func (.func 144) [] [ptrV rw 0,ptrV zr 0]] B' K':=fun K' k1 k2=>by
     have hpz:=p.sz_eq;have hpl:=YZ p.kids;refine hasPaS (J:=fun i C=>∃ Hd,Inv (k + 1 + pasSz (p.kids.take i)) Hd C∧SubH Hc Hd) (St:=fun C=>∃ j,Stop j C) (by omega) ⟨Hc,by simpa [pasSz] using hB,Zn1 _⟩ (fun i h C hC K'' h1 h2=>⟨ZlN,?_⟩) (fun C hC=>?_) (fun C hC=>hC.elim fun j hj=>k2 j C hj)
     ·obtain ⟨Hd,hC1,hC2⟩:=hC;have hsC:=hsub _ _ _ hC1;have c5:=hsC _ _ (hC2 _ _ x5);have cw:=hsC _ _ (hC2 _ _ xw);have hik:=ih p.kids[i] (a + 1) (k + 1 + pasSz (p.kids.take i)) (Xp (p.kids.drop (i + 1)) (a + 1) ++ M);have hdk:=Zih hL.out h;have hks:=YP (Zn9 h);have hkd:=Zc4 h;refine ZN fd144 (by simp) ?_;delta c144 Zj Zq Zb Zm Zr Zc;have hwa:IntKind.i64.wrap (a + 1)=a + 1:=ZR (by omega) (by omega);replace hdk:=Zn0 hdk;replace hkd:=Zn0 hkd;replace h1:=Zn0 h1;replace h2:=Zn0 h2;clear hT hF k1 k2 hL hyk
      (repeat' (first | (simp only [↓ZI,ZJ,ptrV,ZnW,ZnY,ZM,ZnZ,undef,Zgi,Wn,Yc, *]) | (refine ZK fun zr zh=>?_; have zg:=zh; (try simp only [Zn2] at zg); (try have zn_c5:=ZnX c5 zh); (try have zn_c5:=ZnX c5 zg.2); (try have zn_c5:=ZnX c5 zg.2.2); (try have zn_cw:=ZnX cw zh); (try have zn_cw:=ZnX cw zg.2); (try have zn_cw:=ZnX cw zg.2.2)) | (with_reducible refine And.intro ?_ ?_)))
      ·exact ZhD
      ·have hIC:=hal _ _ _ zr (.cells 74 [bV p.kids[i].con,sV p.kids[i].name,encS paE p.kids[i].kids] 0) hC1 zh;have hsd:SubH Hd (Hd.set zr (.cells 74 [bV p.kids[i].con,sV p.kids[i].name,encS paE p.kids[i].kids] 0)):=Zn5 (hsC.none zh);refine hik _ _ _ (by omega) hdk.out (by omega) (by omega) (by omega) hIC (hsd _ _ (hC2 _ _ xy)) (hsd _ _ (hC2 _ _ xw)) (fun Hd2 B2 hB2 hk2=>?_) (fun j B2 hB2=>?_)
       ·(repeat' (first | (simp only [↓ZI,ZJ,boolV,ZnW,ZnY, *]) | (refine ZP ?_)))
        refine h1.out _ ⟨Hd2,?_,hC2.trans (hsd.trans hk2)⟩;rw [hkd.out,← Nat.add_assoc];exact hB2
       ·(repeat' (first | (simp only [↓ZI,ZJ,boolV,ZnW,ZnY, *]) | (refine ZP ?_)))
        exact h2.out _ ⟨j,hB2⟩
     ·obtain ⟨Hd,hC1,hC2⟩:=hC;rw [Zos (Zoc _)] at hC1;refine k1 Hd C ?_ hC2;rw [hpz,show k + (1 + pasSz p.kids)=k + 1 + pasSz p.kids from by omega];exact hC1
    clear hyk hL
    (repeat' (first | (simp only [↓ZI,ZJ,boolV,ZnW,ZnY,ZnZ,Wk,WL,ZhE, *]) | (refine ZP ?_) | (refine hw _ (fun Hd B2 hB2 hk2=>?_) (fun j B2 hB2=>?_))))
    ·exact hT.out _ _ hB2 (hbc.trans hk2)
    ·exact hF.out _ _ hB2
   ·(repeat' (first | (simp only [↓ZI,ZJ,boolV,ZnW,ZnY,ZU,ZM,undef,ZhE, *]) | (refine ZP ?_)))
    exact hF.out _ _ hB
theorem allRun2 {p:Pa} {rb s0:Nat} {Hb H:AH} {K:VE→AH→Prop} (hsub:∀ k Hb B,Inv k Hb B→SubH Hb B) (hal:∀ k Hb B z b,Inv k Hb B→B z=none→Inv k (Hb.set z b) (B.set z b)) (hs:p.sz≤1099511627776)
 (hy:∀ k (h:k < (p.all 0).length) Hb B,Inv k Hb B→∀ K':VE→AH→Prop,(∀ B',Inv (k + 1) Hb B'→K' (.ret (boolV true)) B')→(∀ B',Stop k B'→K' (.ret (boolV false)) B')→ACall Tryz.prog none y [plV (p.all 0)[k]] B K')
 (hyl:∀ B xs K',Wc Tryz.prog none y xs B K'=ACall Tryz.prog none y xs B K') (hone:VV.one y=true) (hyc:y.cells=[y])
 (hrb:H rb=some (.cells 74 [bV p.con,sV p.name,encS paE p.kids] s0)) (hI:Inv 0 Hb H)
 (hEnd:∀ Hb' B u,Inv p.sz Hb' B→SubH Hb Hb'→K (.ret u) B) (hStop:∀ j B u,Stop j B→K (.ret u) B):Yh Tryz.prog 141 [y,ptrV rb 0] H K:=by
 have hw:=fun (ry rw sp sp':Nat)=>walk2 (ry:=ry) (rw:=rw) (sp:=sp) (sp':=sp') (L:=p.all 0) hsub hal hy hyl (p.sz + 1) p 0 0 []
 refine ZN fd141 (by simp) ?_;delta c141 Zj Zi Zq Zr Zg Zb;replace hEnd:=Zn0 hEnd;replace hStop:=Zn0 hStop;clear hy
 (repeat' (first | (simp only [↓ZI,ZJ,ptrV,ZnW,ZnY,ZM,setAt,ZnZ,Zmz,ZmA,undef,Zgi,Wn,Zmq,Zh4,ZhD, *]) | (refine ZK fun zr zh=>?_; have zg:=zh; (try simp only [Zn2] at zg); (try have zn_hrb:=ZnX hrb zh); (try have zn_hrb:=ZnX hrb zg.2); (try have zn_hrb:=ZnX hrb zg.2.2))))
 rename_i ry ny ny' nq;have hI1:=hal _ _ _ zr (.cells 246 [.func (.func 142) [] [ptrV ry 0,ptrV zr 0]] 0) (hal _ _ _ ry (.cells 245 [y] 0) hI ny) zh;have hsI:=hsub _ _ _ hI;have hbc:SubH Hb ((Hb.set ry (.cells 245 [y] 0)).set zr (.cells 246 [.func (.func 142) [] [ptrV ry 0,ptrV zr 0]] 0)):=(Zn5 (hsI.none ny)).of_set (hsI.none zg.2);refine hw ry zr 0 0 _ _ _ (Nat.lt_succ_self _) (by simp) hs (by omega) (by omega) hI1 (by rw [Zoa _ _ (fun e=>zg.1.1 e.symm)]; exact Zn4 _ _ _) (Zn4 _ _ _) (fun Hd B hB hd=>?_) (fun j B hB=>?_)
 ·rw [Zot] at hB
  (repeat' (first | (simp only [↓ZI,boolV, *])))
  exact ⟨rfl,_,B,_,rfl,.refl _ _,hEnd.out _ B _ hB (hbc.trans hd)⟩
 ·(repeat' (first | (simp only [↓ZI,boolV, *])))
  exact ⟨rfl,_,B,_,rfl,.refl _ _,hStop.out j B _ hB⟩
end
end Go.PV.YtglpmlbbaedbiaaGreat
end
section
open Go.PV.AH renaming del_ne→Zov,set_none→Zn2,set_same→Zn4,get→Zn8,ne_of→ZnX,set_ne→Zoa
open Go.PV.GhV renaming refl→Zoq
open Go.PV.Hold renaming mk→Zn0
open Go.PV.PureF renaming use→Zn3
open Go.PV.SubH renaming new→Zn5
open Int renaming toNat_natCast→ZoJ
open List renaming length_append→Zow,getElem_mem→Zn9,map_cons→Zou,map_nil→ZoE,length_cons→Zox,all_cons→ZoT,drop→ZnZ,set_cons_zero→Zo1,set_cons_succ→Zo0,length_take→ZoF,append_nil→ZoO,take_of_length_le→Zos
open Nat renaming reduceEqDiff→ZnW,reduceLT→ZnY,reduceAdd→Zn7,succ_ne_self→ZoD,zero_add→Zot,le_refl→Zoc,reduceLeDiff→Zof
open Option renaming bind_some→Zol,map_some→Zog
set_option maxRecDepth 20000
set_option maxHeartbeats 4000000
namespace Go.PV.YtglpmlbbaedbiaaGreat
open Go Go.Proofs
def varsL (L:List Pl):List ByteArray:=L.filterMap fun x=>if x.1.con=true then none else some x.1.name
theorem Zla {L:List Pl} {k:Nat} (h:k < L.length):varsL (L.take (k + 1))=varsL (L.take k) ++ (if L[k].1.con=true then [] else [L[k].1.name]):=by
 rw [YL h,varsL,List.filterMap_append]
 congr 1
 simp only [List.filterMap_cons,List.filterMap_nil]
 split<;>rename_i e<;>split at e<;>simp_all
theorem Zil (L:List Pl):(varsL L).length≤L.length:=List.length_filterMap_le _ _
def varsP (p:Pa):List ByteArray:=varsL (p.all 0)
def YF (l:List Pa):List ByteArray:=l.flatMap varsP
theorem ZjY {l:List Pa} {i:Nat} (h:i < l.length):YF (l.take (i + 1))=YF (l.take i) ++ varsP l[i]:=by
 rw [YL h,YF,List.flatMap_append]; simp [YF]
theorem Znl (p:Pa):(varsP p).length≤p.sz:=by
 have:=Zil (p.all 0); rw [p.all_len] at this; exact this
theorem Zb8:∀ l:List Pa,(YF l).length≤pasSz l
 | []=>by simp [YF]
 | p :: l=>by
   have:=Zb8 l; have:=Znl p
   rw [YF,List.flatMap_cons,Zow,pasSz]; unfold YF at *; omega
theorem ZgC {H0:AH} {v:VV} {n:Nat} {cs:List VV} {t:Nat→VV} (h2:t 2=v):∀ (rs:List Nat) (H Hb:AH),OwnX Hb H 9 1 v n cs→SubH H0 Hb→rs.Nodup→(∀ r∈rs,Hb r=some (.obj (.deferred (some [])))∧H0 r=none) →
 WM Tryz.prog [.tmp 2] (fun e H'=>∃ y,e=.ret y∧GhV H' y H0 (.slice false n cs)) t (rs.map WS) .returning H
 | [],H,Hb,ho,hs,_,_=>⟨v,H,v,by simp only [resV,YO,YN,h2,Zol,Zog,tupV],Zoq _ _,v,rfl,GhV.back ho hs⟩
 | r :: rs,H,Hb,ho,hs,hn,hr=>by
   have h1:=hr r (by simp);refine ⟨by simp,ho.sub _ _ h1.1,?_⟩
   exact ZgC h2 rs (H.del r) (Hb.del r) (ho.del h1.1) (hs.del h1.2) (List.nodup_cons.1 hn).2 fun r' h'=>by
    have h3:=hr r' (by simp [h']);refine ⟨?_,h3.2⟩;rw [Zov _ (fun e=>(List.nodup_cons.1 hn).1 (by rw [← e]; exact h'))];exact h3.1
def VInv (T:Nat→VV) (fn:FuncId) (ca cb:Code) (r r3 l0:Nat) (acc:List ByteArray) (L:List Pl) (k:Nat) (Hk B:AH):Prop :=
 ∃ v Hb,OwnX Hb B 9 1 v (acc ++ varsL (L.take k)).length (encC strE (acc ++ varsL (L.take k)))∧Hb r3=some (.cells 181 [v] 0)∧Hb l0=some (.loop .ready none fn 27 T #[15] ca cb r)∧SubH Hk Hb∧Hk r3=none∧Hk l0=none
theorem ZiP (l:List Pa) (hs:pasSz l≤1099511627776):PureF Tryz.prog 117 [pasV l] (strsV (YF l)):=by
 have hl:=YZ l;have hpz:∀ i (h:i < l.length),l[i].sz≤1099511627776:=fun i h=>by have:=YP (Zn9 h); omega
 have hvl:∀ i,(YF (l.take i)).length≤1099511627776:=fun i=>by have:=Zb8 (l.take i); have:=Jq l i; omega
 have hN:l.length≤1099511627776:=by omega
 clear hl hs;refine Xo.pure fun H0=>?_
 refine Zbg fd117 (by simp) ?_;delta c117 Zq Zi Za Ze
 (repeat' (first | (simp only [↓ZI,ZJ,ptrV,intV,ZnW,ZnY,reduceCtorEq,ZM,undef,Zm5,XU, *]) | (refine ZK fun zr zh=>?_; have zg:=zh; (try simp only [Zn2] at zg))))
 have g3:=zh;have hI0:InB H0 (H0.set zr (.cells 181 [.lit (.slice none 0 0)] 0)) zr 181 [] [] 9 1 0 [] (.lit (.slice none 0 0)) _:=InB.start (Zn4 _ _ _) (Zn5 zh) zh;generalize zr=r3 at *
 refine ZW (fun _ _ _ h=>h) (fun A H'=>A.t 3=ptrV r3 0∧A.t 7=pasV l∧A.t 8=iV l.length∧∃ (i:Nat) (rs:List Nat) (v:VV) (Hb:AH),i≤l.length∧A.t 9=iV i∧A.d=rs.map WS∧rs.Nodup∧(∀ r∈rs,Hb r=some (.obj (.deferred (some [])))∧H0 r=none)∧InB H0 H' r3 181 [] [] 9 1 (YF (l.take i)).length (encC strE (YF (l.take i))) v Hb)
  (fun A _=>match A.t 9 with | .lit (.int _ i)=>((l.length:Int) - i).toNat | _=>0) ?_ ?_
 ·exact ⟨(by simp only [ZL,ZnW,if_true,if_false, *]<;>rfl),(by simp only [ZL,ZnW,if_true,if_false, *]<;>rfl),(by simp only [ZL,ZnW,if_true,if_false, *]<;>rfl),0,[],_,_,by omega,(by simp only [ZL,ZnW,if_true,if_false, *]<;>rfl),rfl,.nil,by simp,hI0⟩
 ·clear hI0;rintro ⟨t,d⟩ H' ⟨h3,h7,h8,i,rs,v,Hb,hi,h9,rfl,hnd,hrs,hin⟩;dsimp only at h3 h7 h8 h9;delta b117_1 Zn Zr Zk Zb Zi Zg Zo Zd Zq Zl;have q3:=hin.at;by_cases hlt:i < l.length
  ·have hil:(i:Int) < (l.length:Int):=by omega
   have hdi:=XQ hlt;replace hin:=Zn0 hin;replace hrs:=Zn0 hrs;replace hnd:=Zn0 hnd
   (repeat' (first | (refine Zl3 _ (fun rb nb=>?_)) | (simp only [↓JH,↓WV,↓WW,↓ZbI,↓Wu,↓Ww,↓XA,↓Zgj,↓WX,↓Xe,↓Xf,↓XK,↓XL,↓Zax,↓XM,↓Zay,↓XN,↓JR,↓ZL,↓Wf,↓JO,↓JB,↓Jg,↓Wa,↓WD,↓XY,↓Jw,ptrV,Zou,ZoE,Zox,List.length_nil,ite_true,ite_false,ZnW,ZnY,Zn7,true_and,ZoD,decide_true,Int.natCast_nonneg,ZoJ,Zn8,AH.set_set,setAt,ZoT,List.all_nil,Bool.and_self,eq_self,Zot,ZnZ,and_self,Xt,Zmy,Zcm,WB,Zaq,Zo1,Zo0,↓Jh,Wv,Zoc,ZdU,JC,ZfV,Zcn,JD,ZdV,Jo,ZdW,ZdX,Wn,ZhA,Zaj,XU,Zju, *]) | (refine ZK fun zr zh=>?_; have zg:=zh; (try simp only [Zn2] at zg); (try have zn_q3:=ZnX q3 zh); (try have zn_q3:=ZnX q3 zg.2); (try have zn_q3:=ZnX q3 zg.2.2))))
   simp only [Zn2] at nb;have hin1:=((hin.out.alloc zh (.cells 74 [bV l[i].con,sV l[i].name,encS paE l[i].kids] 0)).alloc (z:=rb) (by rw [Zn2]; exact nb) (.cells 74 [bV l[i].con,sV l[i].name,encS paE l[i].kids] 0))
   have hbn:=fun (x:Nat) (h:H' x=none)=>hin.out.own.sub.none h
   have hrs1:∀ r∈rs,((Hb.set zr (.cells 74 [bV l[i].con,sV l[i].name,encS paE l[i].kids] 0)).set rb (.cells 74 [bV l[i].con,sV l[i].name,encS paE l[i].kids] 0)) r=some (.obj (.deferred (some [])))∧H0 r=none:=fun r hr=>by
    have h:=hrs.out r hr;have e1:=ZnX h.1 (hbn _ zh);have e2:=ZnX h.1 (hbn _ nb.2);exact ⟨by rw [Zoa _ _ e2.1,Zoa _ _ e1.1]; exact h.1,h.2⟩
   refine Jz (fun t H=>t 3=ptrV r3 0∧t 7=pasV l∧t 8=iV l.length∧t 9=iV i∧t 14=.func (.func 141) [] [ptrV rb 0]∧H rb=some (.cells 74 [bV l[i].con,sV l[i].name,encS paE l[i].kids] 0)∧∃ Hb,(∀ r∈rs,Hb r=some (.obj (.deferred (some [])))∧H0 r=none)∧InB H0 H r3 181 [] [] 9 1 (YF (l.take i)).length (encC strE (YF (l.take i))) v Hb)
    ⟨(by simp only [ZL,ZnW,if_false, *]<;>rfl),(by simp only [ZL,ZnW,if_false, *]<;>rfl),(by simp only [ZL,ZnW,if_false, *]<;>rfl),(by simp only [ZL,ZnW,if_false, *]<;>rfl),(by simp only [ZL,ZnW,if_true,if_false, *]<;>rfl),Zn4 _ _ _,_,hrs1,hin1⟩ ?_
   clear hin1 hrs1 hbn nb hin hrs q3 h3 h7 h8 h9 hdi;have hsnoc:=ZjY hlt;have hp:=hpz i hlt;have hv1:=hvl (i + 1);have hv0:=hvl i;clear hpz hvl;generalize l[i]=p at *
   rintro t Hx ⟨t3,t7,t8,t9,t14,xb,Hb,hrs,hin⟩;refine Zbt rfl (.inl t14) (by kernel_rfl) ?_;intro r l0 fn ca cb hca hcb hr hl0 hne hfn;have hbr:Hb r=none:=hin.own.sub.none hr;have hbl:Hb l0=none:=hin.own.sub.none hl0;have d3r:=ZnX hin.blk hbr;have d3l:=ZnX hin.blk hbl;obtain ⟨Hk,hHk⟩:∃ Hk,Hk=(Hb.del r3).set r (.obj (.deferred (some []))):=⟨_,rfl⟩
   have k3:Hk r3=none:=by rw [hHk,Zoa _ _ d3r.1,AH.del_same]
   have kl:Hk l0=none:=by rw [hHk,Zoa _ _ hne,Zov _ d3l.2]; exact hbl
   have kr:Hk r=some (.obj (.deferred (some []))):=by rw [hHk]; exact Zn4 _ _ _
   have k0:SubH H0 Hk:=by rw [hHk]; exact (hin.sub.del hin.new).of_set (hin.sub.none hbr)
   have krs:∀ r'∈rs,Hk r'=some (.obj (.deferred (some [])))∧H0 r'=none:=fun r' h'=>by
    have h:=hrs r' h';have e1:=ZnX h.1 hbr;refine ⟨?_,h.2⟩;rw [hHk,Zoa _ _ e1.1,Zov _ (fun e=>by rw [e,hin.blk] at h; cases h.1)];exact h.1
   have h0r:H0 r=none:=hin.sub.none hbr;have h0l:H0 l0=none:=hin.sub.none hbl;have hrn:r ∉ rs:=fun h=>by have:=(hrs r h).1; rw [hbr] at this; cases this
   refine allRun2 (p:=p) (Hb:=Hk) (Inv:=VInv t fn ca cb r r3 l0 (YF (l.take i)) (p.all 0)) (Stop:=fun _ _=>False) (fun k Hq B h=>?_) (fun k Hq B z b h hz=>?_) hp ?_ (fun _ _ _=>rfl) rfl rfl (s0:=0) ?_ ?_ ?_ (fun _ _ _ h=>h.elim)
   ·obtain ⟨v,Hb,ho,_,_,hs,_⟩:=h;exact hs.trans ho.sub
   ·obtain ⟨v,Hb,ho,h3,hl,hs,n3,nl⟩:=h;have hbz:=ho.sub.none hz;have e3:=ZnX h3 hbz;have el:=ZnX hl hbz;exact ⟨v,Hb.set z b,ho.alloc hz b,by rw [Zoa _ _ e3.1]; exact h3,by rw [Zoa _ _ el.1]; exact hl,hs.set _ _,by rw [Zoa _ _ e3.1]; exact n3,by rw [Zoa _ _ el.1]; exact nl⟩
   ·rintro k hk Hq B ⟨v2,Hb2,ho,b3,bl,hsq,n3,nl⟩ K' hk1 hk2;have hBl:=ho.sub _ _ bl;have q3:=ho.sub _ _ b3;have c1:=Zkw (p.all 0)[k].1;have hvs:=Zla hk
    have hlen:((YF (l.take i)) ++ varsL ((p.all 0).take k)).length≤2199023255552:=by
     have h1:=Zil ((p.all 0).take k);have h2:((p.all 0).take k).length≤p.sz:=by rw [← p.all_len 0,ZoF]; omega
     rw [Zow]; omega
    generalize (p.all 0)[k]=x at *
    replace ho:=Zn0 ho;replace hsq:=Zn0 hsq;replace hvs:=Zn0 hvs;refine Zab (l:=l0) (pe:=none) (fn:=fn) (N:=27) (t:=t) (ps:=#[15]) («asg»:=ca) (bd:=cb) (ds:=r) hBl rfl (by simp) hfn ?_;refine Zdp hca ?_
    (repeat' (first | (simp only [↓ZI,ZJ,ptrV,ZnW,ZnY,Zn7,setAt,Zaz,Zi7,Zfm, *]) | (refine Ya rfl (fun _ _ _ h=>h) ?_) | (refine ZK fun zr zh=>?_; have zg:=zh; (try simp only [Zn2] at zg); (try have zn_q3:=ZnX q3 zh); (try have zn_q3:=ZnX q3 zg.2); (try have zn_q3:=ZnX q3 zg.2.2); (try have zn_hBl:=ZnX hBl zh); (try have zn_hBl:=ZnX hBl zg.2); (try have zn_hBl:=ZnX hBl zg.2.2)) | (with_reducible refine And.intro ?_ ?_)))
    ·exact ⟨none,rfl⟩
    ·intro pe;refine Zdp hcb ?_;have hbz:=ho.out.sub.none zh;have el:=ZnX bl hbz;have e3:=ZnX b3 hbz;have blz:∀ b,(Hb2.set zr b) l0=some (.loop .ready none fn 27 t #[15] ca cb r):=fun b=>by rw [Zoa _ _ el.1]; exact bl
     have hqz:∀ b,SubH Hq (Hb2.set zr b):=fun b=>hsq.out.of_set (hsq.out.none hbz)
     (repeat' (first | (simp only [↓ZI,ZJ,ptrV,boolV,ZnW,ZnY,Zof,reduceCtorEq,fillV,setAt,ZnZ,ZQ,JY,Jl,Wn,Zmn,Ye,YH,Xr,Zdj, *]) | (refine Ym ?_ ?_<;>intro) | (refine Ya rfl (fun _ _ _ h=>h) ?_) | (refine Zn3 (c1) ?_)))
     ·have hc:x.1.con=false:=by have h:(!x.1.con)=true:=by assumption
                                simpa using h
      have hx:=hvs.out;rw [if_neg (by simp [hc])] at hx;have hx2:YF (l.take i) ++ varsL ((p.all 0).take (k + 1))=(YF (l.take i) ++ varsL ((p.all 0).take k)) ++ [x.1.name]:=by rw [hx,List.append_assoc]
      refine Wl YH Xr rfl (by omega) ((ho.out.alloc zh _).put (blz _) _) rfl rfl (by omega) (by omega) (fun v' H'' ho2=>?_);have e2:encC strE ((YF (l.take i) ++ varsL ((p.all 0).take k)) ++ [x.1.name])=encC strE (YF (l.take i) ++ varsL ((p.all 0).take k)) ++ [sV x.1.name]:=by rw [Yo]; rfl
      have e3':((YF (l.take i) ++ varsL ((p.all 0).take k)) ++ [x.1.name]).length=(YF (l.take i) ++ varsL ((p.all 0).take k)).length + 1:=by rw [Zow]; rfl
      have b3':∀ b c,((Hb2.set zr b).set l0 c) r3=some (.cells 181 [v2] 0):=fun b c=>by rw [Zoa _ _ d3l.1,Zoa _ _ e3.1]; exact b3
      have w3:=ho2.sub _ _ (b3' _ _);have wl:=ho2.sub _ _ (Zn4 _ _ _);have hc1:=ho2.cells.1;have hc2:=ho2.cells.2;rw [← e2,← e3',← hx2] at ho2;replace ho2:=Zn0 ho2;clear hx hx2 e2 e3' hvs
      (repeat' (first | (simp only [↓ZI,ZJ,ptrV,ZnW,setAt,szT_181, *])))
      have wl2:(H''.set r3 (.cells 181 [v'] 0)) l0=some (.loop .busy pe fn 27 t #[15] ca cb r):=by rw [Zoa _ _ d3l.2]; exact wl
      refine ⟨⟨pe,wl2⟩,hk1 _ ⟨v',_,(ho2.out.put (b3' _ _) (.cells 181 [v'] 0)).put (by rw [Zoa _ _ d3l.2]; exact Zn4 _ _ _) _,by rw [Zoa _ _ d3l.1]; exact Zn4 _ _ _,Zn4 _ _ _,(((hqz _).of_set nl).of_set n3).of_set nl,n3,nl⟩⟩
     ·have hc:x.1.con=true:=by have h:(!x.1.con)=false:=by assumption
                               simpa using h
      have hx:=hvs.out;rw [if_pos hc,ZoO] at hx;refine ⟨⟨pe,Zn4 _ _ _⟩,hk1 _ ⟨v2,(Hb2.set zr (.cells 241 [bV x.fst.con,sV x.fst.name,encS paE x.fst.kids,iV x.snd] 0)).set l0 (.loop .ready none fn 27 t #[15] ca cb r),?_,?_,Zn4 _ _ _,(hqz _).of_set nl,n3,nl⟩⟩
      ·rw [AH.set_set,hx];exact (ho.out.alloc zh _).put (blz _) _
      ·rw [Zoa _ _ d3l.1,Zoa _ _ e3.1]; exact b3
   ·have e1:=ZnX xb hr;have e2:=ZnX xb hl0;rw [Zoa _ _ e2.1,Zoa _ _ e1.1]; exact xb
   ·refine ⟨v,(Hb.set r (.obj (.deferred (some [])))).set l0 (.loop .ready none fn 27 t #[15] ca cb r),?_,?_,Zn4 _ _ _,?_,k3,kl⟩
    ·simp only [List.take_zero,varsL,List.filterMap_nil,ZoO];exact (hin.own.alloc hr _).alloc (by rw [Zoa _ _ hne]; exact hl0) _
    ·rw [Zoa _ _ d3l.1,Zoa _ _ d3r.1]; exact hin.blk
    ·rw [hHk];exact (SubH.set (fun i b h=>by rw [AH.del_get] at h; split at h; cases h; exact h) _ _).of_set (by rw [Zoa _ _ hne,Zov _ d3l.2]; exact hbl)
   ·rintro Hd B u ⟨v2,Hb2,ho,b3,bl,hsq,n3,nl⟩ hd;have hBl:=ho.sub _ _ bl;refine ⟨.ready,none,hBl,by simp,?_⟩;rw [← p.all_len 0,Zos (Zoc _)] at ho
    change OwnX Hb2 B 9 1 v2 (YF (l.take i) ++ varsP p).length (encC strE (YF (l.take i) ++ varsP p)) at ho
    rw [← hsnoc] at ho;have ho2:=ho.del bl;have q3:(Hb2.del l0) r3=some (.cells 181 [v2] 0):=by rw [Zov _ d3l.1]; exact b3
    have hs2:SubH H0 (Hb2.del l0):=((k0.trans hd).trans hsq).del h0l
    have hrs2:∀ r'∈r :: rs,(Hb2.del l0) r'=some (.obj (.deferred (some [])))∧H0 r'=none:=fun r' h'=>by
     have hx:Hk r'=some (.obj (.deferred (some [])))∧H0 r'=none:=by
      rcases List.mem_cons.1 h' with rfl | h'
      ·exact ⟨kr,h0r⟩
      ·exact krs r' h'
     exact ⟨by rw [Zov _ (ZnX hx.1 kl).1]; exact hsq _ _ (hd _ _ hx.1),hx.2⟩
    have hnd2:(r :: rs).Nodup:=List.nodup_cons.2 ⟨hrn,hnd.out⟩;have hin2:InB H0 (B.del l0) r3 181 [] [] 9 1 (YF (l.take (i + 1))).length (encC strE (YF (l.take (i + 1)))) v2 (Hb2.del l0):=⟨ho2,q3,hs2,hin.new⟩
    replace hin2:=Zn0 hin2;replace hrs2:=Zn0 hrs2;replace hnd2:=Zn0 hnd2;clear ho2 q3 hs2 ho hd hsq bl b3 hBl hin hrs hnd krs;show ACx _ ZlP _ _ _;delta ZlP Zm Za
    (repeat' (first | (simp only [↓ZI,ZJ,ptrV,ZnW,ZnY, *]) | (refine Ya rfl (fun _ _ _ h=>h) ?_) | (with_reducible refine And.intro ?_ ?_)))
    all_goals rw [ZR (n:=(i:Int) + 1) (by omega) (by omega)]
    ·exact ⟨i + 1,r :: rs,v2,_,by omega,rfl,rfl,hnd2.out,hrs2.out,hin2.out⟩
    ·omega
  ·have hil:¬ (i:Int) < (l.length:Int):=by omega
   have hie:i=l.length:=by omega
   subst hie;rw [Zos (Zoc _)] at hin
   (repeat' (first | (simp only [↓ZI,ZJ,ptrV,ZnY, *]) | (refine Ya rfl (fun _ _ _ h=>h) ?_)))
   delta c117_2 Zb Zc
   (repeat' (first | (simp only [↓ZI,ZJ,ptrV,ZnW,ZnY,ZnZ,Zmn, *])))
   exact ZgC (by simp only [ZL,ZnW,if_true,if_false]) rs _ _ hin.own hin.sub hnd hrs
end Go.PV.YtglpmlbbaedbiaaGreat
end
section
open Go.PV.AH renaming set_none→Zn2,set_same→Zn4
open Go.PV.Hold renaming mk→Zn0
open Go.PV.SubH renaming refl→Zn1,of_set→Zn6,new→Zn5
open List renaming drop→ZnZ,take_of_length_le→Zos
open Nat renaming reduceLT→ZnY,reduceEqDiff→ZnW,reduceAdd→Zn7,reduceLeDiff→Zof,le_refl→Zoc
set_option maxRecDepth 20000
set_option maxHeartbeats 4000000
namespace Go.PV.YtglpmlbbaedbiaaGreat
open Go Go.Proofs
abbrev nilP:VV:=.lit (.pointer none)
def ScAt (H:AH):VV→List ByteArray→Prop
 | v,[]=>v=nilP
 | v,n :: l=>∃ r v',v=ptrV r 0∧H r=some (.cells 243 [sV n,v'] 0)∧ScAt H v' l
theorem ScAt.mono {H H':AH} (hs:SubH H H'):∀ {l:List ByteArray} {v:VV},ScAt H v l→ScAt H' v l
 | [],v,h=>h
 | n :: l,v,⟨r,v',h1,h2,h3⟩=>⟨r,v',h1,hs _ _ h2,ScAt.mono hs h3⟩
theorem ScAt.one {H:AH}:∀ {l:List ByteArray} {v:VV},ScAt H v l→v.cells=[v]∧VV.one v=true
 | [],v,h=>by cases h; exact ⟨rfl,rfl⟩
 | n :: l,v,⟨r,v',h1,h2,h3⟩=>by cases h1; exact ⟨rfl,rfl⟩
theorem ScAt.uniq {H:AH}:∀ {l m:List ByteArray} {v:VV},ScAt H v l→ScAt H v m→l=m
 | [],[],v,h,k=>rfl
 | [],n :: m,v,h,⟨r,v',h1,_⟩=>by cases h; simp [ptrV,nilP] at h1
 | n :: l,[],v,⟨r,v',h1,_⟩,h=>by cases h; simp [ptrV,nilP] at h1
 | n :: l,n' :: m,v,⟨r,v',h1,h2,h3⟩,⟨r',v'',k1,k2,k3⟩=>by
   subst h1;obtain rfl:r=r':=by simpa [ptrV] using k1
   rw [h2] at k2;simp only [Option.some.injEq,Blk.cells.injEq,List.cons.injEq,VV.lit.injEq,Value.string.injEq,and_true,true_and] at k2;obtain ⟨rfl,rfl⟩:=k2;rw [ScAt.uniq h3 k3]
open Classical in
noncomputable def scLen (H:AH) (v:VV):Nat:=if h:∃ l,ScAt H v l then h.choose.length else 0
theorem Zky {H:AH} {v:VV} {l:List ByteArray} (h:ScAt H v l):scLen H v=l.length:=by
 have hx:∃ l,ScAt H v l:=⟨l,h⟩
 rw [scLen,dif_pos hx,ScAt.uniq hx.choose_spec h]
theorem neq_ptr {P:Program} {t e:TypeId} {ox:Operand} {c:Value} {a:Option Addr} {H:AH} {K:VE→AH→Prop} (hu:P.underlying t=some (.pointer e)):vcBin P .neq t ox (.const c) (.lit (.pointer a)) nilP H K=K (.ret (boolV (!a.isNone))) H:=by
 unfold vcBin;simp only [YR];exact propext ⟨fun h=>h.2.2 _ rfl,fun h=>⟨⟨e,hu⟩,.inr (.inl rfl),fun b hb=>by rw [show b=a.isNone from hb]; exact h⟩⟩
theorem eq_ptr {P:Program} {t e:TypeId} {ox:Operand} {c:Value} {a:Option Addr} {H:AH} {K:VE→AH→Prop} (hu:P.underlying t=some (.pointer e)):vcBin P .eql t ox (.const c) (.lit (.pointer a)) nilP H K=K (.ret (boolV a.isNone)) H:=by
 unfold vcBin;simp only [YR];exact propext ⟨fun h=>h.2.2 _ rfl,fun h=>⟨⟨e,hu⟩,.inr (.inl rfl),fun b hb=>by rw [show b=a.isNone from hb]; exact h⟩⟩
theorem eq_iptr {P:Program} {t e:TypeId} {ox:Operand} {c:Value} {cs:List VV} {H:AH} {K:VE→AH→Prop} (hu:P.underlying t=some (.pointer e)):vcBin P .eql t ox (.const c) (.iptr cs) nilP H K=K (.ret (boolV false)) H:=by
 unfold vcBin;simp only [YR];exact propext ⟨fun h=>h.2.2 _ rfl,fun h=>⟨⟨e,hu⟩,.inr (.inl rfl),fun b hb=>by rw [show b=false from hb]; exact h⟩⟩
theorem Zim {ox:Operand} {c:Value} {a:Option Addr} {H:AH} {K:VE→AH→Prop}:vcBin Tryz.prog .neq 220 ox (.const c) (.lit (.pointer a)) nilP H K=K (.ret (boolV (!a.isNone))) H:=neq_ptr (e:=243) (by kernel_rfl)
theorem schas_ok (nm:List ByteArray) (s:ByteArray) {v:VV} {H:AH} (hv:ScAt H v nm):ReadF Tryz.prog 140 [v,sV s] (boolV (hasF nm s)) H:=by
 refine ZN fd140 (by simp) ?_;delta c140 Zq;obtain ⟨R,hR⟩:∃ R,R=hasF nm s:=⟨_,rfl⟩
 rw [← hR];replace hR:=Zn0 hR;replace hv:=Zn0 hv
 (repeat' (first | (simp only [↓ZI,ZJ,boolV,ZnY,ZM,undef, *])))
 refine ZW (fun _ _ _ h=>h) (fun A H'=>H'=H∧A.d=[]∧A.t 1=sV s∧∃ m,ScAt H (A.t 0) m∧R=hasF m s) (fun A _=>scLen H (A.t 0)) ?_ ?_
 ·exact ⟨rfl,rfl,(by simp only [ZL,ZnW,if_false, *]<;>rfl),nm,by simp only [ZL,ZnW,if_false]; exact hv.out,hR.out⟩
 ·clear hv hR;rintro ⟨t,d⟩ H' ⟨rfl,rfl,h1,m,hm,hR⟩;dsimp only at h1 hm;rw [Zky hm];delta b140_1 Za Zq Zr Zd Zb Zn Zc;cases m with
  | nil =>
    have h0:t 0=nilP:=hm;rw [show R=false from hR];clear hR hm
    (repeat' (first | (simp only [↓ZI,ZJ,boolV,ZnY,Zim,Option.isNone_none, *]) | (refine Ya rfl (fun _ _ _ h=>h) ?_)))
    delta c140_1 Zq
    (repeat' (first | (simp only [↓ZI,ZJ,ZnW,ZnY, *]) | (refine ZP ?_) | (exact Zn1 _)))
  | cons n m =>
    obtain ⟨r,v',h0,hr,hm'⟩:=hm;have hl:=Zky hm';have hR':R=(decide (n=s) || hasF m s):=hR;clear hR;replace hR':=Zn0 hR';replace hm':=Zn0 hm'
    (repeat' (first | (simp only [↓ZI,ZJ,↓ZaT,↓Xd,vcNil,ptrV,boolV,ZnW,ZnY,reduceCtorEq,ZnZ,Zim,Option.isNone_some,Zm6,Zm7,Ye,ldT_220, *]) | (refine ZY ?_ ?_<;>intro) | (refine ZP ?_) | (exact Zn1 _) | (with_reducible refine And.intro ?_ ?_)))
    all_goals first
     | exact Nat.lt_succ_self _
     | (have hn:¬ n=s:=by assumption
        exact ⟨m,hm'.out,by rw [hR'.out]; simp [hn]⟩)
     | (have hn:n=s:=by assumption
        rw [hR'.out]; simp [hn])
theorem ZmJ (ex:Bool) (l:List ByteArray) (hl:l.length≤1099511627776) {v:VV} {nm:List ByteArray} {H:AH} {K:VE→AH→Prop} (hv:ScAt H v nm) (hK:∀ v' H',SubH H H'→ScAt H' v' (l.reverse ++ nm)→K (.ret v') H'):Yh Tryz.prog 120 [v,.slice ex l.length (encC strE l)] H K:=by
 refine ZN fd120 (by simp) ?_;delta c120 Zq Za Ze;replace hv:=Zn0 hv;replace hK:=Zn0 hK
 (repeat' (first | (simp only [↓ZI,ZJ,intV,ZnW,ZnY,reduceCtorEq,ZM,undef,YH, *])))
 refine ZW (fun _ _ _ h=>h) (fun A H'=>SubH H H'∧A.d=[]∧A.t 7=.slice ex l.length (encC strE l)∧A.t 8=iV l.length∧∃ i:Nat,i≤l.length∧A.t 9=iV i∧ScAt H' (A.t 0) ((l.take i).reverse ++ nm)) (fun A _=>match A.t 9 with | .lit (.int _ i)=>((l.length:Int) - i).toNat | _=>0) ?_ ?_
 ·exact ⟨Zn1 _,rfl,(by simp only [ZL,ZnW,if_true,if_false, *]<;>rfl),(by simp only [ZL,ZnW,if_true,if_false, *]<;>rfl),0,by omega,(by simp only [ZL,ZnW,if_true,if_false, *]<;>rfl),by simp only [ZL,ZnW,if_false]; exact hv.out⟩
 ·clear hv;rintro ⟨t,d⟩ H' ⟨hs,rfl,h7,h8,i,hi,h9,hm⟩;dsimp only at h7 h8 h9 hm;have h1:=hm.one.1;have h2:=hm.one.2;replace hm:=Zn0 hm;delta b120_1 Zn Zr Zk Zb Zc Za Zq Zj Zm;by_cases hlt:i < l.length
  ·have hil:(i:Int) < (l.length:Int):=by omega
   have hdi:=Zar hlt
   (repeat' (first | (simp only [↓ZI,ZJ,ptrV,ZnW,ZnY,Zn7,Zof,reduceCtorEq,ZX,fillV,setAt,ZX,Ye,stT_243,YH, *]) | (refine ZK fun zr zh=>?_; have zg:=zh; (try simp only [Zn2] at zg)) | (refine Zn6 ?_ ?_) | (exact SubH.none (by assumption) (by assumption)) | (with_reducible refine And.intro ?_ ?_)))
   all_goals rw [ZR (n:=(i:Int) + 1) (by omega) (by omega)]
   all_goals first
    | omega
    | exact hs.of_set (hs.none zh)
    | (refine ⟨i + 1,by omega,rfl,?_⟩
       rw [YL hlt,List.reverse_append];exact ⟨_,_,rfl,Zn4 _ _ _,hm.out.mono (Zn5 zh)⟩)
  ·have hil:¬ (i:Int) < (l.length:Int):=by omega
   have hie:i=l.length:=by omega
   subst hie;rw [Zos (Zoc _)] at hm
   (repeat' (first | (simp only [↓ZI,ZJ,ZnY, *]) | (refine Ya rfl (fun _ _ _ h=>h) ?_)))
   delta c120_1 Za Zc
   (repeat' (first | (simp only [↓ZI,ZJ,ZnW,ZnY,reduceCtorEq, *]) | (refine ZP ?_)))
   exact hK.out _ _ hs hm.out
end Go.PV.YtglpmlbbaedbiaaGreat
end
section
open Go.PV.AH renaming set_none→Zn2,ne_of→ZnX,get→Zn8,set_same→Zn4,set_ne→Zoa
open Go.PV.Hold renaming mk→Zn0
open Go.PV.PureF renaming use→Zn3
open Go.PV.SubH renaming refl→Zn1,of_set→Zn6,new→Zn5
open Int renaming reduceEq→Zoh,reduceLT→Zom,reduceNeg→ZoA
open List renaming drop_eq_getElem_cons→Zoz,drop→ZnZ,drop_eq_nil_of_le→Zop,getElem_mem→Zn9
open Nat renaming reduceEqDiff→ZnW,reduceLT→ZnY,reduceAdd→Zn7,reduceLeDiff→Zof
set_option maxRecDepth 20000
set_option maxHeartbeats 4000000
namespace Go.PV.YtglpmlbbaedbiaaGreat
open Go Go.Proofs
mutual
def Ex.nmOk:Ex→Prop
 | .mk _ n ks=>n.size≤1099511627776∧Ze9 ks
def Ze9:List Ex→Prop
 | []=>True
 | k :: ks=>k.nmOk∧Ze9 ks
end
theorem ZfC:∀ {ks:List Ex},Ze9 ks↔∀ k∈ks,k.nmOk
 | []=>by simp [Ze9]
 | k :: ks=>by rw [Ze9,ZfC]; simp
theorem Ex.nmOk_iff {e:Ex}:e.nmOk↔e.name.size≤1099511627776∧∀ k∈e.kids,k.nmOk:=by
 cases e; rw [Ex.nmOk,ZfC]; rfl
def arCo (l:List Co) (n:ByteArray):Int:=match l[(atCo l n).toNat]? with | some c=>c.arity | none=>0
def ownF (p:Pr) (e:Ex) (nm:List ByteArray):Int :=
 if misF e=true then 411 else
 if (e.op=2∧atFu p.funs e.name < 0)∨(e.op=3∧atCo p.cons e.name < 0) then 9 else
 if e.op=3∧¬ (e.kids.length:Int)=arCo p.cons e.name then 5 else
 if e.op=1∧hasF nm e.name=false then 411 else 0
mutual
def Ex.shF (p:Pr):Ex→List ByteArray→Int
 | .mk op n ks,nm=>if ownF p (.mk op n ks) nm=0 then shsF p ks (if op=5 then n :: nm else nm) else ownF p (.mk op n ks) nm
def shsF (p:Pr):List Ex→List ByteArray→Int
 | [],_=>0
 | k :: ks,nm=>if k.shF p nm=0 then shsF p ks nm else k.shF p nm
end
theorem Ex.shF_eq (p:Pr) (e:Ex) (nm:List ByteArray):e.shF p nm=if ownF p e nm=0 then shsF p e.kids (if e.op=5 then e.name :: nm else nm) else ownF p e nm:=by
 cases e; rw [Ex.shF]; rfl
theorem Zin {p:Pr} {l:List Ex} {nm:List ByteArray} {i:Nat} (h:i < l.length):shsF p (l.drop i) nm=if l[i].shF p nm=0 then shsF p (l.drop (i + 1)) nm else l[i].shF p nm:=by
 rw [Zoz h,shsF]
def shQ (H0:AH) (R:Int):APost:=YW Tryz.prog [.tmp 6] fun e H'=>e=.ret (iV R)∧SubH H0 H'
theorem Za2 {p:Pr} {ks:List Ex} {nm:List ByteArray} {t:Nat→VV} {H0 B:AH} {v:VV} {r3:Nat} {R:Int} (hN:ks.length≤1099511627776)
 (ih:∀ i (h:i < ks.length) (H:AH),ScAt H v nm→ReadF Tryz.prog 119 [prV p,exV ks[i],v] (iV (ks[i].shF p nm)) H) (hR:R=shsF p ks nm) (h2:t 2=v) (hv:ScAt B v nm) (h3:t 3=ptrV r3 0)
 (k3:B r3=some (.cells 44 [cosV p.cons,fusV p.funs] 0)) (h74:t 74=exsV ks) (h75:t 75=iV ks.length) (h76:t 76=iV 0) (hs:SubH H0 B) :
 ACx ⟨Tryz.prog,88,none⟩ (.loop ZlQ) (YX 1 (thenA (ACx ⟨Tryz.prog,88,none⟩ ZlR (shQ H0 R)) (shQ H0 R))) ⟨t,[]⟩ B:=by
 refine ZW (fun _ _ _ h=>h) (fun A H'=>SubH B H'∧A.d=[]∧A.t 2=v∧A.t 3=ptrV r3 0∧A.t 74=exsV ks∧A.t 75=iV ks.length∧∃ i:Nat,i≤ks.length∧A.t 76=iV i∧R=shsF p (ks.drop i) nm)
  (fun A _=>match A.t 76 with | .lit (.int _ i)=>((ks.length:Int) - i).toNat | _=>0) ?_ ?_
 ·exact ⟨Zn1 _,rfl,h2,h3,h74,h75,0,by omega,h76,hR⟩
 ·clear hR h2 h3 h74 h75 h76;rintro ⟨t,d⟩ H' ⟨hb,rfl,h2,h3,h74,h75,i,hi,h76,hR⟩;dsimp only at h2 h3 h74 h75 h76;delta ZlQ Zn Zr Zk Zb Zi Zg Za Zo Zc Zm;have q3:=hb _ _ k3;by_cases hlt:i < ks.length
  ·have hil:(i:Int) < (ks.length:Int):=by omega
   have hdi:=XB hlt;rw [Zin hlt] at hR;replace hR:=Zn0 hR;have rd:=fun H2 (h:SubH B H2)=>ih i hlt H2 (hv.mono h)
   clear ih k3
   (repeat' (first | (simp only [↓ZI,ZJ,ptrV,ZnW,ZnY,Zn7,setAt,ZnZ,Yt,Zbc,YD,Ys,Yn,ZlK, *]) | (refine Ym ?_ ?_<;>intro) | (refine ZP ?_) | (refine ZK fun zr zh=>?_; have zg:=zh; (try simp only [Zn2] at zg); (try have zn_q3:=ZnX q3 zh); (try have zn_q3:=ZnX q3 zg.2); (try have zn_q3:=ZnX q3 zg.2.2)) | (refine Zn6 ?_ ?_) | (exact SubH.none (by assumption) (by assumption)) | (refine (rd _ ?_).use ?_) | (with_reducible refine And.intro ?_ ?_)))
   all_goals try rw [ZR (n:=(i:Int) + 1) (by omega) (by omega)]
   all_goals first
    | omega
    | exact hs.trans hb
    | exact hb
    | exact hb.of_set (hb.none zh)
    | exact hs.none (hb.none zh)
    | (have hne:(!decide (Ex.shF p ks[i] nm=0))=true:=by assumption
       rw [hR.out,if_neg (by simpa using hne)])
    | (have hne:(!decide (Ex.shF p ks[i] nm=0))=false:=by assumption
       exact ⟨i + 1,by omega,rfl,by rw [hR.out,if_pos (by simpa using hne)]⟩)
  ·have hil:¬ (i:Int) < (ks.length:Int):=by omega
   rw [Zop (by omega)] at hR;have hR:R=0:=hR;subst hR
   (repeat' (first | (simp only [↓ZI,ZJ,ptrV,ZnY, *]) | (refine Ya rfl (fun _ _ _ h=>h) ?_)))
   delta ZlR Zf
   (repeat' (first | (simp only [↓ZI,ZJ,ZnW,ZnY, *]) | (refine ZP ?_)))
   exact hs.trans hb
theorem Zlb {p:Pr} {op ac af:Int} {name:ByteArray} {kids:List Ex} {m hb:Bool} {nm:List ByteArray} {v:VV} {H:AH} {R:Int} (hN:kids.length≤1099511627776)
 (ih:∀ (nm':List ByteArray) (v':VV) i (h:i < kids.length) (H:AH),ScAt H v' nm'→ReadF Tryz.prog 119 [prV p,exV kids[i],v'] (iV (kids[i].shF p nm')) H)
 (hm:PureF Tryz.prog 139 [.agg [iV op,sV name,encS exE kids]] (boolV m)) (hc:PureF Tryz.prog 78 [cosV p.cons,sV name] (iV ac)) (hf:PureF Tryz.prog 79 [fusV p.funs,sV name] (iV af))
 (hat:ac=-1∨∃ j:Nat,∃ h:j < p.cons.length,ac=j) (hhas:∀ H,ScAt H v nm→ReadF Tryz.prog 140 [v,sV name] (boolV hb) H) (hv:ScAt H v nm)
 (o:Int) (ho:o=if m=true then 411 else if (op=2∧af < 0)∨(op=3∧ac < 0) then 9 else if op=3∧¬ (kids.length:Int)=(match p.cons[ac.toNat]? with | some c=>c.arity | none=>0) then 5 else if op=1∧hb=false then 411 else 0)
 (hR:R=if o=0 then shsF p kids (if op=5 then name :: nm else nm) else o):ReadF Tryz.prog 119 [prV p,.agg [iV op,sV name,encS exE kids],v] (iV R) H:=by
 have hvc:=hv.one.1;have hvo:=hv.one.2;refine ZN fd119 (by simp) ?_;delta c119 Zj Zf Zb Zo Zr Zd Zc Zm Za Zp Zq Ze;replace hv:=Zn0 hv;cases m with
 | true =>
   have hR':=Zn0 (show (411:Int)=R by rw [hR,ho]; simp);clear hR ho hhas hat ih
   (repeat' (first | (simp only [↓ZI,ZJ,ptrV,boolV,ZnW,ZnY,ZM,ZnZ,undef,Yt,Zbd, *]) | (refine ZP ?_) | (refine ZK fun zr zh=>?_; have zg:=zh; (try simp only [Zn2] at zg)) | (exact Zn1 _) | (refine Zn6 ?_ ?_) | (refine Zn3 (hm) ?_) | (with_reducible refine And.intro ?_ ?_)))
   all_goals first
    | rw [hR'.out]
    | (rename_i r3 n3 n3'; exact (Zn5 n3).of_set zg.2)
 | false =>
   by_cases h2:op=2
   ·subst h2;by_cases haf:af < 0
    ·have hR':=Zn0 (show (9:Int)=R by rw [hR,ho]; simp [haf]);clear hR ho hhas hat ih
     (repeat' (first | (simp only [↓ZI,ZJ,ptrV,boolV,ZnW,ZnY,ZM,ZnZ,undef,XG,Yw,Yg,WU,Yt,Ws,Ye,Yc,ZbF,Zbd,ZaC,ZdR, *]) | (refine ZP ?_) | (refine ZK fun zr zh=>?_; have zg:=zh; (try simp only [Zn2] at zg)) | (exact Zn1 _) | (refine Zn6 ?_ ?_) | (refine Zn3 (hm) ?_) | (refine Zn3 (hc) ?_) | (refine Zn3 (hf) ?_) | (with_reducible refine And.intro ?_ ?_)))
     all_goals first
      | rw [hR'.out]
      | (rename_i r3 n3 n3'; exact (Zn5 n3).of_set zg.2)
    ·have hR':=Zn0 (show R=shsF p kids nm by rw [hR,ho]; simp [haf]);clear hR ho hhas hat
     (repeat' (first | (simp only [↓ZI,ZJ,ptrV,intV,boolV,ZnW,ZnY,reduceCtorEq,ZU,ZM,ZnZ,undef,Zoh,XG,Yw,Yg,WU,Yj,Yt,Ws,Ye,Yc,ZbF,Yz,Yn,Zbd,ZaC,ZdR,ZeC, *]) | (refine ZS mixed (fun _ _ _ _ e h=>⟨e.trans h.1,h.2⟩) _ (Zn1 _) ?_) | (refine ZK fun zr zh=>?_; have zg:=zh; (try simp only [Zn2] at zg)) | (refine Zn3 (hm) ?_) | (refine Zn3 (hc) ?_) | (refine Zn3 (hf) ?_)))
     rename_i r3 n3 n3';refine Za2 (ks:=kids) (nm:=nm) (v:=v) (r3:=r3) hN (fun i h H=>ih _ _ i h H) hR'.out (by simp only [ZL,ZnW,if_false, *]<;>rfl) (hv.out.mono ((Zn5 n3).of_set zg.2)) (by simp only [ZL,ZnW,if_true,if_false, *]<;>rfl) (by simp only [Zn8, *,if_true,if_false]<;>rfl) (by simp only [ZL,ZnW,if_true,if_false, *]<;>rfl) (by simp only [ZL,ZnW,if_true,if_false, *]<;>rfl) (by simp only [ZL,ZnW,if_true,if_false, *]<;>rfl) ((Zn5 n3).of_set zg.2)
   ·by_cases h3:op=3
    ·subst h3;rcases hat with rfl | ⟨j,hj,rfl⟩
     ·have hR':=Zn0 (show (9:Int)=R by rw [hR,ho]; simp);clear hR ho hhas ih
      (repeat' (first | (simp only [↓ZI,ZJ,ptrV,boolV,ZnW,ZnY,ZU,ZM,ZnZ,undef,Zom,ZoA,XG,Yw,Yg,Yt,Ws,Ye,Yc,Zbd,ZaC,ZdR, *]) | (refine ZP ?_) | (refine ZK fun zr zh=>?_; have zg:=zh; (try simp only [Zn2] at zg)) | (exact Zn1 _) | (refine Zn6 ?_ ?_) | (refine Zn3 (hm) ?_) | (refine Zn3 (hc) ?_) | (with_reducible refine And.intro ?_ ?_)))
      all_goals first
       | rw [hR'.out]
       | (rename_i r3 n3 n3'; exact (Zn5 n3).of_set zg.2)
     ·have hcd:=Jx hj;have hjl:(j:Int) < (p.cons.length:Int):=by omega
      have hj0:¬ (j:Int) < 0:=by omega
      by_cases hka:(kids.length:Int)=p.cons[j].arity
      ·have hR':=Zn0 (show R=shsF p kids nm by rw [hR,ho]; simp [hj,hka,hj0]);clear hR ho hhas
       (repeat' (first | (simp only [↓ZI,ZJ,ptrV,intV,boolV,ZnW,ZnY,reduceCtorEq,ZU,ZM,ZnZ,undef,Zoh,XG,Yw,Yg,Yj,ZbH,Yt,Ws,Ye,Yc,Yz,Yn,Zaw,Zbd,ZaC,ZdR,ZeC, *]) | (refine ZS mixed (fun _ _ _ _ e h=>⟨e.trans h.1,h.2⟩) _ (Zn1 _) ?_) | (refine ZK fun zr zh=>?_; have zg:=zh; (try simp only [Zn2] at zg)) | (refine Zn3 (hm) ?_) | (refine Zn3 (hc) ?_)))
       rename_i r3 n3 n3';refine Za2 (ks:=kids) (nm:=nm) (v:=v) (r3:=r3) hN (fun i h H=>ih _ _ i h H) hR'.out (by simp only [ZL,ZnW,if_false, *]<;>rfl) (hv.out.mono ((Zn5 n3).of_set zg.2)) (by simp only [ZL,ZnW,if_true,if_false, *]<;>rfl) (by simp only [Zn8, *,if_true,if_false]<;>rfl) (by simp only [ZL,ZnW,if_true,if_false, *]<;>rfl) (by simp only [ZL,ZnW,if_true,if_false, *]<;>rfl) (by simp only [ZL,ZnW,if_true,if_false, *]<;>rfl) ((Zn5 n3).of_set zg.2)
      ·have hR':=Zn0 (show (5:Int)=R by rw [hR,ho]; simp [hj,hka,hj0]);clear hR ho hhas ih
       (repeat' (first | (simp only [↓ZI,ZJ,ptrV,intV,boolV,ZnW,ZnY,reduceCtorEq,ZU,ZM,ZnZ,undef,XG,Yw,Yg,Yj,ZbH,Yt,Ws,Ye,Yc,Yz,Yn,Zaw,Zbd,ZaC,ZdR, *]) | (refine ZP ?_) | (refine ZS mixed (fun _ _ _ _ e h=>⟨e.trans h.1,h.2⟩) _ (Zn1 _) ?_) | (refine ZK fun zr zh=>?_; have zg:=zh; (try simp only [Zn2] at zg)) | (exact Zn1 _) | (refine Zn6 ?_ ?_) | (refine Zn3 (hm) ?_) | (refine Zn3 (hc) ?_) | (with_reducible refine And.intro ?_ ?_)))
       all_goals first
        | rw [hR'.out]
        | (rename_i r3 n3 n3'; exact (Zn5 n3).of_set zg.2)
    ·by_cases h1:op=1
     ·subst h1;cases hb with
      | false =>
        have hR':=Zn0 (show (411:Int)=R by rw [hR,ho]; simp);clear hR ho hat ih
        (repeat' (first | (simp only [↓ZI,ZJ,ptrV,boolV,ZnW,ZnY,ZU,ZM,ZnZ,undef,XG,Yw,Yg,Yt,Ws,Ye,Yc,Zbd,ZaC,ZdR,ZeC, *]) | (refine ZP ?_) | (refine ZS mixed (fun _ _ _ _ e h=>⟨e.trans h.1,h.2⟩) _ (Zn1 _) ?_) | (refine ZK fun zr zh=>?_; have zg:=zh; (try simp only [Zn2] at zg)) | (exact Zn1 _) | (refine Zn6 ?_ ?_) | (refine Zn3 (hm) ?_) | (refine Zn3 (hc) ?_) | (refine (hhas _ (hv.out.mono ?_)).use ?_) | (with_reducible refine And.intro ?_ ?_)))
        all_goals first
         | rw [hR'.out]
         | (rename_i r3 n3 n3'; exact (Zn5 n3).of_set zg.2)
      | true =>
        have hR':=Zn0 (show R=shsF p kids nm by rw [hR,ho]; simp);clear hR ho hat
        (repeat' (first | (simp only [↓ZI,ZJ,ptrV,intV,boolV,ZnW,ZnY,reduceCtorEq,ZU,ZM,ZnZ,undef,Zoh,XG,Yw,Yg,Yj,Yt,Ws,Ye,Yc,Yz,Yn,Zbd,ZaC,ZdR,ZeC, *]) | (refine ZS mixed (fun _ _ _ _ e h=>⟨e.trans h.1,h.2⟩) _ (Zn1 _) ?_) | (refine ZK fun zr zh=>?_; have zg:=zh; (try simp only [Zn2] at zg)) | (exact Zn1 _) | (refine Zn6 ?_ ?_) | (refine Zn3 (hm) ?_) | (refine Zn3 (hc) ?_) | (refine (hhas _ (hv.out.mono ?_)).use ?_)))
        rename_i r3 n3 n3'
        ·refine Za2 (ks:=kids) (nm:=nm) (v:=v) (r3:=r3) hN (fun i h H=>ih _ _ i h H) hR'.out (by simp only [ZL,ZnW,if_false, *]<;>rfl) (hv.out.mono ((Zn5 n3).of_set zg.2)) (by simp only [ZL,ZnW,if_true,if_false, *]<;>rfl) (by simp only [Zn8, *,if_true,if_false]<;>rfl) (by simp only [ZL,ZnW,if_true,if_false, *]<;>rfl) (by simp only [ZL,ZnW,if_true,if_false, *]<;>rfl) (by simp only [ZL,ZnW,if_true,if_false, *]<;>rfl) ((Zn5 n3).of_set zg.2)
     ·by_cases h5:op=5
      ·subst h5;have hR':=Zn0 (show R=shsF p kids (name :: nm) by rw [hR,ho]; simp);clear hR ho hat hhas
       (repeat' (first | (simp only [↓ZI,ZJ,ptrV,boolV,ZnW,ZnY,Zof,ZU,ZM,fillV,setAt,ZnZ,undef,ZQ,XG,Yw,Yg,Yj,Yt,Ws,Ye,Yc,Yz,YH,Xr,Zbd,ZaC,ZdR,ZeC,ZlJ, *]) | (refine ZS mixed (fun _ _ _ _ e h=>⟨e.trans h.1,h.2⟩) _ (Zn1 _) ?_) | (refine ZK fun zr zh=>?_; have zg:=zh; (try simp only [Zn2] at zg)) | (exact Zn1 _) | (refine Zn6 ?_ ?_) | (refine Zn3 (hm) ?_) | (refine Zn3 (hc) ?_) | (refine ZmJ true [name] (by simp) (hv.out.mono ?_) (fun v' H' hs' hv'=>?_))))
       rename_i r3 n3 n3'
       ·have k4:=hs' _ _ (Zn4 _ _ _);have k3:H' r3=some (.cells 44 [cosV p.cons,fusV p.funs] 0):=hs' _ _ (by rw [Zoa _ _ zg.1.2]; exact Zn4 _ _ _);have hv2:ScAt H' v' (name :: nm):=hv';have hsH:SubH H H':=((Zn5 n3).of_set zg.2).trans hs'
        (repeat' (first | (simp only [↓ZI,ZJ,intV,ZnW,ZnY,reduceCtorEq,ZnZ,Yn, *])))
        exact Za2 (ks:=kids) (nm:=name :: nm) (v:=v') (r3:=r3) hN (fun i h H=>ih _ _ i h H) hR'.out (by simp only [ZL,ZnW,if_true,if_false, *]<;>rfl) hv2 (by simp only [ZL,ZnW,if_true,if_false, *]<;>rfl) k3 (by simp only [ZL,ZnW,if_true,if_false, *]<;>rfl) (by simp only [ZL,ZnW,if_true,if_false, *]<;>rfl) (by simp only [ZL,ZnW,if_true,if_false, *]<;>rfl) hsH
      ·have hR':=Zn0 (show R=shsF p kids nm by rw [hR,ho]; simp [h1,h2,h3,h5]);clear hR ho hhas hat
       (repeat' (first | (simp only [↓ZI,ZJ,ptrV,intV,boolV,ZnW,ZnY,reduceCtorEq,ZU,ZM,ZnZ,undef,XG,Yw,Yg,Yj,Yt,Ws,Ye,Yc,Yz,Yn,Zbd,ZaC,ZdR,ZeC, *]) | (refine ZS mixed (fun _ _ _ _ e h=>⟨e.trans h.1,h.2⟩) _ (Zn1 _) ?_) | (refine ZK fun zr zh=>?_; have zg:=zh; (try simp only [Zn2] at zg)) | (refine Zn3 (hm) ?_) | (refine Zn3 (hc) ?_)))
       rename_i r3 n3 n3';refine Za2 (ks:=kids) (nm:=nm) (v:=v) (r3:=r3) hN (fun i h H=>ih _ _ i h H) hR'.out (by simp only [ZL,ZnW,if_false, *]<;>rfl) (hv.out.mono ((Zn5 n3).of_set zg.2)) (by simp only [ZL,ZnW,if_true,if_false, *]<;>rfl) (by simp only [Zn8, *,if_true,if_false]<;>rfl) (by simp only [ZL,ZnW,if_true,if_false, *]<;>rfl) (by simp only [ZL,ZnW,if_true,if_false, *]<;>rfl) (by simp only [ZL,ZnW,if_true,if_false, *]<;>rfl) ((Zn5 n3).of_set zg.2)
theorem shape_ok (p:Pr) (hpc:p.cons.length≤1099511627776) (hpf:p.funs.length≤1099511627776):∀ (n:Nat) (e:Ex) (nm:List ByteArray) (v:VV) (H:AH),e.sz < n→e.sz≤1099511627776→e.nmOk→ScAt H v nm→ReadF Tryz.prog 119 [prV p,exV e,v] (iV (e.shF p nm)) H:=by
 intro n
 induction n with
 | zero=>intro e nm v H h0; omega
 | succ n ih =>
   intro e nm v H h0 hs hnm hv;have z:=e.sz_eq;have hkl:=YC e.kids;rw [Ex.nmOk_iff] at hnm;refine Zlb (ac:=atCo p.cons e.name) (af:=atFu p.funs e.name) (m:=misF e) (hb:=hasF nm e.name) (nm:=nm) (by omega) (fun nm' v' i h H hv'=>?_) (ZiO e hnm.1) (ZjG p.cons e.name hpc) (findFu p.funs e.name hpf) ?_ (fun H h=>schas_ok nm e.name h) hv (ownF p e nm) rfl (e.shF_eq p nm)
   ·have:=Yl (Zn9 h)
    exact ih _ _ _ _ (by omega) (by omega) (hnm.2 _ (Zn9 h)) hv'
   ·rcases Wm (fun c:Co=>decide (c.name=e.name)) p.cons with ⟨h,_⟩ | ⟨j,h,hj,_⟩
    ·exact .inl h
    ·exact .inr ⟨j,h,hj⟩
end Go.PV.YtglpmlbbaedbiaaGreat
end
section
open Go.PV.AH renaming set_none→Zn2,get→Zn8,set_same→Zn4,ne_of→ZnX
open Go.PV.GhL renaming cons→Zod
open Go.PV.Hold renaming mk→Zn0
open Go.PV.PureF renaming use→Zn3,forget→Zoj
open Go.PV.SubH renaming refl→Zn1,new→Zn5,of_set→Zn6
open List renaming take_append_drop→ZoU,length_take→ZoF,drop_eq_getElem_cons→Zoz,drop→ZnZ,append_nil→ZoO,take_of_length_le→Zos,getElem_mem→Zn9,drop_eq_nil_of_le→Zop
open Nat renaming reduceEqDiff→ZnW,reduceLT→ZnY,reduceAdd→Zn7
open Option renaming map_none→ZoC,map_some→Zog
set_option maxRecDepth 20000
set_option maxHeartbeats 4000000
namespace Go.PV.YtglpmlbbaedbiaaGreat
open Go Go.Proofs
theorem takeStr {l:List ByteArray} {n:ByteArray} {i:Nat} {H:AH} {K:VE→AH→Prop} (hi:i≤l.length) (hl:l.length≤1099511627776) (hK:K (.ret (boolV (hasF (l.take i) n))) H):Yh Tryz.prog 81 [.slice false i (encC strE l),sV n] H K:=by
 have e:encC strE l=encC strE (l.take i) ++ encC strE (l.drop i):=by rw [← Yo,ZoU]
 rw [e];refine YM (Zod (GhV.trunc _ _ _ _ _) (GhL.refl _ _)) ?_;have el:(l.take i).length=i:=by rw [ZoF]; omega
 rw [show VV.slice false i (encC strE (l.take i))=strsV (l.take i) from by rw [strsV,encS,el]];exact (Zik (l.take i) n (by omega)).use hK
def Za3 (R:Int) (l:List Co):List Pa→Int
 | []=>R
 | x :: r=>if paChk l x=0 then Za3 R l r else paChk l x
theorem Zeq {R:Int} {l:List Co} {ps:List Pa} {i:Nat} (h:i < ps.length):Za3 R l (ps.drop i)=if paChk l ps[i]=0 then Za3 R l (ps.drop (i + 1)) else paChk l ps[i]:=by
 rw [Zoz h,Za3]
def Za4 (p:Pr) (c:Cl):Int:=if 1000 < c.body.sz then 7 else if 100 < c.body.dp then 6 else c.body.shF p (YF c.pats).reverse
open Classical in
noncomputable def clErr (p:Pr) (f:Fu) (c:Cl):Int :=
 if (c.pats.length:Int)=f.arity then Za3 (if (YF c.pats).Nodup then Za4 p c else 10) p.cons c.pats else 5
def clQ (H0:AH) (R:Int):APost:=YW Tryz.prog [.tmp 6] fun e H'=>e=.ret (iV R)∧SubH H0 H'
structure ClOk (c:Cl):Prop where
 pats:pasSz c.pats≤1099511627776
 names:∀ q∈c.pats,∀ x∈q.all 0,x.1.name.size≤1099511627776
 body:c.body.sz≤1099511627776
 bnames:c.body.nmOk
theorem ZjZ {p:Pr} {c:Cl} {t:Nat→VV} {H0 B:AH} {r3 r5:Nat} {R:Int} (hpc:p.cons.length≤1099511627776) (hpf:p.funs.length≤1099511627776) (hc:ClOk c) (hR:R=Za4 p c)
 (h3:t 3=ptrV r3 0) (h5:t 5=ptrV r5 0) (h10:t 10=strsV (YF c.pats)) (k3:B r3=some (.cells 44 [cosV p.cons,fusV p.funs] 0)) (k5:B r5=some (.cells 78 (clE c) 0)) (hs:SubH H0 B) :
 ACx ⟨Tryz.prog,72,none⟩ c80_1 (clQ H0 R) ⟨t,[]⟩ B:=by
 have hsz:=csize_ok c.body (by have:=hc.body; omega);have hvl:(YF c.pats).length≤1099511627776:=by have:=Zb8 c.pats; have:=hc.pats; omega
 have hsh:=fun v H (h:ScAt H v (YF c.pats).reverse)=>shape_ok p hpc hpf (c.body.sz + 1) c.body _ v H (by omega) hc.body hc.bnames h
 unfold Za4 at hR;replace hR:=Zn0 hR;delta c80_1 Zd Zb Zo Zr Za Zh Zc Zm Zf Zq;refine Ya rfl (fun _ _ _ h=>h) ?_
 (repeat' (first | (simp only [↓ZI,ZJ,ZV,ptrV,ZnW,ZnY,reduceCtorEq,ZnZ,Zkj,Yt,Zbc,ZlI,ZlJ,ZlK, *]) | (refine ZY ?_ ?_<;>intro) | (refine ZP ?_) | (refine ZS mixed (fun _ _ _ _ e h=>⟨e.trans h.1,h.2⟩) _ (Zn1 _) ?_) | (refine Zn3 (hsz) ?_) | (refine ZmJ false (YF c.pats) hvl (nm:=[]) rfl (fun v' H' hs' hv'=>?_))))
 all_goals first
  | (have h:1000 < (c.body.sz:Int):=by assumption
     rw [hR.out,if_pos (by omega)])
  | (have h:¬ 1000 < (c.body.sz:Int):=by assumption
     have h':100 < (c.body.dp:Int):=by assumption
     rw [hR.out,if_neg (by omega),if_pos (by omega)])
  | skip
 have h:¬ 1000 < (c.body.sz:Int):=by assumption
 have h':¬ 100 < (c.body.dp:Int):=by assumption
 have e:=hR.out;rw [if_neg (by omega),if_neg (by omega)] at e;rw [ZoO] at hv';have hs2:=hs.trans hs';refine (hsh v' H' hv').use ?_;rw [← e];clear hR hsh e
 (repeat' (first | (simp only [↓ZI,ZJ,ZnW,ZnY, *]) | (refine ZP ?_)))
theorem Zlc {p:Pr} {c:Cl} {t:Nat→VV} {H0 B:AH} {r3 r5:Nat} {R:Int} (hpc:p.cons.length≤1099511627776) (hpf:p.funs.length≤1099511627776) (hc:ClOk c) (hR:R=open Classical in if (YF c.pats).Nodup then Za4 p c else 10)
 (h3:t 3=ptrV r3 0) (h5:t 5=ptrV r5 0) (k3:B r3=some (.cells 44 [cosV p.cons,fusV p.funs] 0)) (k5:B r5=some (.cells 78 (clE c) 0)) (hs:SubH H0 B) :
 ACx ⟨Tryz.prog,72,none⟩ c80_2 (clQ H0 R) ⟨t,[]⟩ B:=by
 have hvl:(YF c.pats).length≤1099511627776:=by have:=Zb8 c.pats; have:=hc.pats; omega
 have hva:=ZiP c.pats hc.pats;delta c80_2 Zd Zb Zo Zr Zc Za Ze Zq;refine Ya rfl (fun _ _ _ h=>h) ?_;replace hR:=Zn0 hR;have hct:=fun (t:Nat→VV) (B:AH) (h:R=Za4 p c)=>ZjZ (t:=t) (B:=B) (R:=R) (H0:=H0) (r3:=r3) (r5:=r5) hpc hpf hc h
 replace hc:=Zn0 hc
 (repeat' (first | (simp only [↓ZI,ZJ,ptrV,intV,ZnW,ZnY,reduceCtorEq,ZnZ,Za7,WL,YH,en_117, *]) | (refine Zn3 (hva) ?_)))
 refine ZW (fun _ _ _ h=>h) (fun A H'=>SubH B H'∧A.d=[]∧A.t 3=ptrV r3 0∧A.t 5=ptrV r5 0∧A.t 10=strsV (YF c.pats)∧A.t 40=strsV (YF c.pats)∧A.t 41=iV (YF c.pats).length∧∃ i:Nat,i≤(YF c.pats).length∧A.t 42=iV i∧((YF c.pats).take i).Nodup)
  (fun A _=>match A.t 42 with | .lit (.int _ i)=>(((YF c.pats).length:Int) - i).toNat | _=>0) ?_ ?_
 ·exact ⟨Zn1 _,rfl,(by simp only [ZL,ZnW,if_false, *]<;>rfl),(by simp only [ZL,ZnW,if_false, *]<;>rfl),(by simp only [ZL,ZnW,if_true,if_false, *]<;>rfl),(by simp only [ZL,ZnW,if_true,if_false, *]<;>rfl),(by simp only [ZL,ZnW,if_true,if_false, *]<;>rfl),0,by omega,(by simp only [ZL,ZnW,if_true,if_false, *]<;>rfl),.nil⟩
 ·clear h3 h5 hva;rintro ⟨t,d⟩ H' ⟨hb,rfl,h3,h5,h10,h40,h41,i,hi,h42,hnd⟩;dsimp only at h3 h5 h10 h40 h41 h42;have q3:=hb _ _ k3;have q5:=hb _ _ k5;delta b80_2 Zn Zr Za Zk Zb Zc Zq Zo Zf Zm;have hE:=Zn0 hR.out;clear hR;generalize YF c.pats=vs at *
  by_cases hlt:i < vs.length
  ·have hil:(i:Int) < (vs.length:Int):=by omega
   have hdi:=Zar hlt;have hsn:=JT (l:=vs.take i) (s:=vs[i]);rw [← YL hlt] at hsn;replace hsn:=Zn0 hsn;replace hnd:=Zn0 hnd;clear hct k3 k5
   (repeat' (first | (simp only [↓ZI,ZJ,ptrV,boolV,ZnW,ZnY,reduceCtorEq,YB,ZoC,Zog,YV,idxV,idxOk,Nat.sub_zero,Ye,YH,ZnN, *]) | (refine Ym ?_ ?_<;>intro) | (refine ZP ?_) | (refine takeStr (by omega) hvl ?_) | (with_reducible refine And.intro ?_ ?_)))
   all_goals try rw [ZR (n:=(i:Int) + 1) (by omega) (by omega)]
   all_goals first
    | omega
    | exact fun h=>trivial
    | exact hs.trans hb
    | (have h2:hasF (vs.take i) vs[i]=true:=by assumption
       rw [hE.out,if_neg];intro h3;exact (hsn.out.1 (Zb6 h3 _)).2 (WI.1 h2))
    | (have h2:hasF (vs.take i) vs[i]=false:=by assumption
       refine ⟨i + 1,by omega,rfl,hsn.out.2 ⟨hnd.out,fun h3=>?_⟩⟩;rw [WI.2 h3] at h2;cases h2)
  ·have hil:¬ (i:Int) < (vs.length:Int):=by omega
   rw [Zos (by omega)] at hnd;have e:=hE.out;rw [if_pos hnd] at e;clear hE;replace e:=Zn0 e
   (repeat' (first | (simp only [↓ZI,ZJ,ptrV,ZnY, *])))
   exact hct _ _ e.out (by simp only [ZL,ZnW,if_false]; exact h3) (by simp only [ZL,ZnW,if_false]; exact h5) (by simp only [ZL,ZnW,if_false]; exact h10) q3 q5 (hs.trans hb)
theorem Znm {p:Pr} {f:Fu} {c:Cl} (hpc:p.cons.length≤1099511627776) (hpf:p.funs.length≤1099511627776) (hc:ClOk c):PureF Tryz.prog 80 [prV p,fuV f,clV c] (iV (clErr p f c)):=by
 have hpl:=YZ c.pats;have hps:=hc.pats;have hN:c.pats.length≤1099511627776:=by omega
 have hpk:∀ i (h:i < c.pats.length),PureF Tryz.prog 116 [paV c.pats[i],cosV p.cons] (iV (paChk p.cons c.pats[i])):=fun i h =>
  Znh _ _ (by have:=YP (Zn9 h); omega) hpc (hc.names _ (Zn9 h))
 clear hpl hps;refine Zoj fun H0=>?_
 refine ZN fd80 (by simp) ?_;delta c80 Zj Zf Zd Zb Ze Zn Zr Zq;obtain ⟨R,hR⟩:∃ R,R=clErr p f c:=⟨_,rfl⟩
 rw [← hR];unfold clErr at hR;by_cases hfa:(c.pats.length:Int)=f.arity
 ·rw [if_pos hfa] at hR;replace hfa:=hfa.symm;have hct:=fun (t:Nat→VV) (B:AH) (r3 r5:Nat) h=>Zlc (p:=p) (c:=c) (t:=t) (B:=B) (R:=R) (H0:=H0) (r3:=r3) (r5:=r5) hpc hpf hc h
  obtain ⟨R2,hR2⟩:∃ R2,R2=(open Classical in if (YF c.pats).Nodup then Za4 p c else 10):=⟨_,rfl⟩
  rw [← hR2] at hR;replace hR:=Zn0 hR;replace hR2:=Zn0 hR2;replace hc:=Zn0 hc
  (repeat' (first | (simp only [↓ZI,ZJ,ptrV,intV,ZnW,ZnY,reduceCtorEq,ZM,ZnZ,undef,Za7,JK,WL,Yc,XU, *]) | (refine ZK fun zr zh=>?_; have zg:=zh; (try simp only [Zn2] at zg))))
  rename_i r3 n3 n3' r4 n4 n4'
  refine Jz (fun t H=>SubH H0 H∧H r3=some (.cells 44 [cosV p.cons,fusV p.funs] 0)∧H zr=some (.cells 78 (clE c) 0)∧t 3=ptrV r3 0∧t 5=ptrV zr 0∧t 23=pasV c.pats∧t 24=iV c.pats.length∧t 25=iV 0)
   ⟨((Zn5 n3).of_set n4'.2).of_set zg.2.2,(by simp only [Zn8, *,if_true,if_false]<;>rfl),Zn4 _ _ _,(by simp only [ZL,ZnW,if_true,if_false, *]<;>rfl),(by simp only [ZL,ZnW,if_true,if_false, *]<;>rfl),(by simp only [ZL,ZnW,if_true,if_false, *]<;>rfl),(by simp only [ZL,ZnW,if_true,if_false, *]<;>rfl),(by simp only [ZL,ZnW,if_true,if_false, *]<;>rfl)⟩ ?_
  clear n3 n3' n4 n4' zh zg hfa;rintro t B ⟨hs,k3,k5,h3,h5,h23,h24,h25⟩
  refine ZW (fun _ _ _ h=>h) (fun A H'=>SubH B H'∧A.d=[]∧A.t 3=ptrV r3 0∧A.t 5=ptrV zr 0∧A.t 23=pasV c.pats∧A.t 24=iV c.pats.length∧∃ i:Nat,i≤c.pats.length∧A.t 25=iV i∧R=Za3 R2 p.cons (c.pats.drop i))
   (fun A _=>match A.t 25 with | .lit (.int _ i)=>((c.pats.length:Int) - i).toNat | _=>0) ?_ ?_
  ·exact ⟨Zn1 _,rfl,h3,h5,h23,h24,0,by omega,h25,hR.out⟩
  ·clear hR h3 h5 h23 h24 h25;rintro ⟨t,d⟩ H' ⟨hb,rfl,h3,h5,h23,h24,i,hi,h25,hR⟩;dsimp only at h3 h5 h23 h24 h25;have q3:=hb _ _ k3;have q5:=hb _ _ k5;delta b80_1 Zn Zr Zk Zb Zi Zg Zd Zo Zc Za Zm;by_cases hlt:i < c.pats.length
   ·have hil:(i:Int) < (c.pats.length:Int):=by omega
    have hdi:=XQ hlt;have hpi:=hpk i hlt;rw [Zeq hlt] at hR;replace hR:=Zn0 hR;clear hct hpk k3 k5
    (repeat' (first | (simp only [↓ZI,ZJ,ptrV,ZnW,ZnY,Zn7,setAt,ZnZ,XG,Wn,Ws,ZhA,Zaj,XU,en_116, *]) | (refine Ym ?_ ?_<;>intro) | (refine ZP ?_) | (refine ZK fun zr zh=>?_; have zg:=zh; (try simp only [Zn2] at zg); (try have zn_q3:=ZnX q3 zh); (try have zn_q3:=ZnX q3 zg.2); (try have zn_q3:=ZnX q3 zg.2.2); (try have zn_q5:=ZnX q5 zh); (try have zn_q5:=ZnX q5 zg.2); (try have zn_q5:=ZnX q5 zg.2.2)) | (refine Zn6 ?_ ?_) | (exact SubH.none (by assumption) (by assumption)) | (refine Zn3 (hpi) ?_) | (with_reducible refine And.intro ?_ ?_)))
    all_goals try rw [ZR (n:=(i:Int) + 1) (by omega) (by omega)]
    all_goals first
     | omega
     | exact hs.trans hb
     | exact hb.of_set (hb.none zh)
     | exact hs.none (hb.none zh)
     | (have hne:(!decide (paChk p.cons c.pats[i]=0))=true:=by assumption
        rw [hR.out,if_neg (by simpa using hne)])
     | (have hne:(!decide (paChk p.cons c.pats[i]=0))=false:=by assumption
        exact ⟨i + 1,by omega,rfl,by rw [hR.out,if_pos (by simpa using hne)]⟩)
     | trace_state
   ·have hil:¬ (i:Int) < (c.pats.length:Int):=by omega
    rw [Zop (by omega)] at hR;have e:=Zn0 (show R=_ from (show R=R2 from hR).trans hR2.out);clear hR hR2
    (repeat' (first | (simp only [↓ZI,ZJ,ptrV,ZnY, *])))
    exact hct _ _ _ _ e.out (by simp only [ZL,ZnW,if_false]; exact h3) (by simp only [ZL,ZnW,if_false]; exact h5) q3 q5 (hs.trans hb)
 ·rw [if_neg hfa] at hR;replace hR:=Zn0 hR
  (repeat' (first | (simp only [↓ZI,ZJ,ptrV,intV,ZnW,ZnY,reduceCtorEq,ZM,ZnZ,undef,Za7,JK,WL,Yc,XU, *]) | (refine ZP ?_) | (refine ZK fun zr zh=>?_; have zg:=zh; (try simp only [Zn2] at zg)) | (exact Zn1 _) | (refine Zn6 ?_ ?_) | (with_reducible refine And.intro ?_ ?_)))
  all_goals first
   | rw [hR.out]
   | (rename_i r3 n3 n3' r4 n4 n4'; exact ((Zn5 n3).of_set n4'.2).of_set zg.2.2)
end Go.PV.YtglpmlbbaedbiaaGreat
end
section
open Go.PV.AH renaming set_none→Zn2,ne_of→ZnX,get→Zn8,set_same→Zn4
open Go.PV.GhL renaming cons→Zod
open Go.PV.Hold renaming mk→Zn0
open Go.PV.PureF renaming use→Zn3,forget→Zoj
open Go.PV.SubH renaming refl→Zn1,of_set→Zn6,new→Zn5
open List renaming take_append_drop→ZoU,length_take→ZoF,drop_eq_getElem_cons→Zoz,getElem_mem→Zn9,drop→ZnZ,drop_eq_nil_of_le→Zop
open Nat renaming reduceLT→ZnY,reduceEqDiff→ZnW,reduceAdd→Zn7,reduceMul→Zor
open Option renaming map_none→ZoC,map_some→Zog
set_option maxRecDepth 20000
set_option maxHeartbeats 4000000
namespace Go.PV.YtglpmlbbaedbiaaGreat
open Go Go.Proofs
theorem takeFu {l:List Fu} {n:ByteArray} {i:Nat} {H:AH} {K:VE→AH→Prop} (hi:i≤l.length) (hl:l.length≤1099511627776) (hK:K (.ret (iV (atFu (l.take i) n))) H):Yh Tryz.prog 79 [.slice false i (encC fuE l),sV n] H K:=by
 have e:encC fuE l=encC fuE (l.take i) ++ encC fuE (l.drop i):=by rw [← Yo,ZoU]
 rw [e];refine YM (Zod (GhV.trunc _ _ _ _ _) (GhL.refl _ _)) ?_;have el:(l.take i).length=i:=by rw [ZoF]; omega
 rw [show VV.slice false i (encC fuE (l.take i))=fusV (l.take i) from by rw [fusV,encS,el]];exact (findFu (l.take i) n (by omega)).use hK
def Zbi (p:Pr) (i:Nat) (f:Fu):Int :=
 if nameB f.name=true then
  (if 0≤atCo p.cons f.name∨0≤atFu (p.funs.take i) f.name then 10 else if f.arity < 0∨10 < f.arity then 4 else if f.cls.length < 1∨100 < f.cls.length then 5 else 0)
 else 411
def WY (R:Int) (p:Pr):List Fu→Nat→Int
 | [],_=>R
 | f :: l,i=>if Zbi p i f=0 then WY R p l (i + 1) else Zbi p i f
theorem Zcx {R:Int} {p:Pr} {l:List Fu} {i k:Nat} (h:i < l.length):WY R p (l.drop i) k=if Zbi p k l[i]=0 then WY R p (l.drop (i + 1)) (k + 1) else Zbi p k l[i]:=by
 rw [Zoz h,WY]
noncomputable def Zas (R:Int) (p:Pr) (f:Fu):List Cl→Int
 | []=>R
 | c :: l=>if clErr p f c=0 then Zas R p f l else clErr p f c
theorem Zer {R:Int} {p:Pr} {f:Fu} {l:List Cl} {i:Nat} (h:i < l.length):Zas R p f (l.drop i)=if clErr p f l[i]=0 then Zas R p f (l.drop (i + 1)) else clErr p f l[i]:=by
 rw [Zoz h,Zas]
noncomputable def Xw (p:Pr):List Fu→Int
 | []=>0
 | f :: l=>Zas (Xw p l) p f f.cls
theorem Zdx {p:Pr} {l:List Fu} {i:Nat} (h:i < l.length):Xw p (l.drop i)=Zas (Xw p (l.drop (i + 1))) p l[i] l[i].cls:=by
 rw [Zoz h,Xw]
noncomputable def Ji (p:Pr):Int:=if 100 < p.funs.length then 5 else if Jy p.cons=0 then WY (Xw p p.funs) p p.funs 0 else Jy p.cons
structure PrOk (p:Pr):Prop where
 cons:p.cons.length≤1099511627776
 funs:p.funs.length≤1099511627776
 cnames:∀ c∈p.cons,c.name.size≤1099511627776
 fnames:∀ f∈p.funs,f.name.size≤1099511627776
 cls:∀ f∈p.funs,f.cls.length≤1099511627776∧∀ c∈f.cls,ClOk c
def ckQ (H0:AH) (R:Int):APost:=YW Tryz.prog [.tmp 2] fun e H'=>e=.ret (iV R)∧SubH H0 H'
theorem Zld {p:Pr} {t:Nat→VV} {H0 B:AH} {r1:Nat} {R:Int} (hp:PrOk p) (hR:R=Xw p p.funs)
 (h1:t 1=ptrV r1 0) (k1:B r1=some (.cells 44 [cosV p.cons,fusV p.funs] 0)) (hs:SubH H0 B) :
 ACx ⟨Tryz.prog,95,none⟩ c44_3 (ckQ H0 R) ⟨t,[]⟩ B:=by
 have hcl:∀ i (h:i < p.funs.length) k (h':k < p.funs[i].cls.length),PureF Tryz.prog 80 [prV p,fuV p.funs[i],clV p.funs[i].cls[k]] (iV (clErr p p.funs[i] p.funs[i].cls[k])):=fun i h k h' =>
  Znm hp.cons hp.funs ((hp.cls _ (Zn9 h)).2 _ (Zn9 h'))
 have hcN:∀ i (h:i < p.funs.length),p.funs[i].cls.length≤1099511627776:=fun i h=>(hp.cls _ (Zn9 h)).1
 have hN:=hp.funs;clear hp;delta c44_3 Zd Zb Ze Zq;refine Ya rfl (fun _ _ _ h=>h) ?_;replace hR:=Zn0 hR
 (repeat' (first | (simp only [↓ZI,ZJ,ptrV,intV,ZnY,reduceCtorEq,ZnZ,WU,ZbF,ZaK, *])))
 refine ZW (fun _ _ _ h=>h) (fun A H'=>SubH B H'∧A.d=[]∧A.t 1=ptrV r1 0∧A.t 73=fusV p.funs∧A.t 74=iV p.funs.length∧∃ i:Nat,i≤p.funs.length∧A.t 75=iV i∧R=Xw p (p.funs.drop i))
  (fun A _=>match A.t 75 with | .lit (.int _ i)=>((p.funs.length:Int) - i).toNat | _=>0) ?_ ?_
 ·exact ⟨Zn1 _,rfl,(by simp only [ZL,ZnW,if_false, *]<;>rfl),(by simp only [ZL,ZnW,if_true,if_false, *]<;>rfl),(by simp only [ZL,ZnW,if_true,if_false, *]<;>rfl),0,by omega,(by simp only [ZL,ZnW,if_true,if_false, *]<;>rfl),hR.out⟩
 ·clear hR h1;rintro ⟨t,d⟩ H' ⟨hb,rfl,h1,h73,h74,i,hi,h75,hR⟩;dsimp only at h1 h73 h74 h75;have q1:=hb _ _ k1;delta b44_3 Zn Zr Zk Zb Zi Zg Zd Ze Zq;by_cases hlt:i < p.funs.length
  ·have hil:(i:Int) < (p.funs.length:Int):=by omega
   have hdi:=WE hlt;rw [Zdx hlt] at hR;replace hR:=Zn0 hR;have hcli:=hcl i hlt;have hcNi:=hcN i hlt;clear k1 hcl hcN
   (repeat' (first | (simp only [↓ZI,ZJ,ptrV,intV,ZnW,ZnY,Zn7,reduceCtorEq,setAt,ZnZ,ZbG,Zdi,ZhB,Zjp,ZcJ,ZaK,Zch, *]) | (refine ZK fun zr zh=>?_; have zg:=zh; (try simp only [Zn2] at zg); (try have zn_q1:=ZnX q1 zh); (try have zn_q1:=ZnX q1 zg.2); (try have zn_q1:=ZnX q1 zg.2.2))))
   refine Jz (fun t H=>SubH B H∧H r1=some (.cells 44 [cosV p.cons,fusV p.funs] 0)∧H zr=some (.cells 81 (fuE p.funs[i]) 0)∧t 1=ptrV r1 0∧t 7=ptrV zr 0∧t 73=fusV p.funs∧t 74=iV p.funs.length∧t 75=iV i∧t 80=clsV p.funs[i].cls∧t 81=iV p.funs[i].cls.length∧t 82=iV 0)
    ⟨hb.of_set (hb.none zh),(by simp only [Zn8, *,if_false]<;>rfl),Zn4 _ _ _,(by simp only [ZL,ZnW,if_false, *]<;>rfl),(by simp only [ZL,ZnW,if_true,if_false, *]<;>rfl),(by simp only [ZL,ZnW,if_false, *]<;>rfl),(by simp only [ZL,ZnW,if_false, *]<;>rfl),(by simp only [ZL,ZnW,if_false, *]<;>rfl),(by simp only [ZL,ZnW,if_true,if_false, *]<;>rfl),(by simp only [ZL,ZnW,if_true,if_false, *]<;>rfl),(by simp only [ZL,ZnW,if_true,if_false, *]<;>rfl)⟩ ?_
   clear zh zg q1 h1 h73 h74 h75 hb hdi;rintro t B2 ⟨hb2,k1,k7,h1,h7,h73,h74,h75,h80,h81,h82⟩
   refine ZW (fun _ _ _ h=>h) (fun A H'=>SubH B2 H'∧A.d=[]∧A.t 1=ptrV r1 0∧A.t 7=ptrV zr 0∧A.t 73=fusV p.funs∧A.t 74=iV p.funs.length∧A.t 75=iV i∧A.t 80=clsV p.funs[i].cls∧A.t 81=iV p.funs[i].cls.length∧∃ k:Nat,k≤p.funs[i].cls.length∧A.t 82=iV k∧R=Zas (Xw p (p.funs.drop (i + 1))) p p.funs[i] (p.funs[i].cls.drop k))
    (fun A _=>match A.t 82 with | .lit (.int _ k)=>((p.funs[i].cls.length:Int) - k).toNat | _=>0) ?_ ?_
   ·exact ⟨Zn1 _,rfl,h1,h7,h73,h74,h75,h80,h81,0,by omega,h82,hR.out⟩
   ·clear hR h1 h7 h73 h74 h75 h80 h81 h82;rintro ⟨t,d⟩ H' ⟨hb,rfl,h1,h7,h73,h74,h75,h80,h81,k,hk,h82,hR⟩;dsimp only at h1 h7 h73 h74 h75 h80 h81 h82;have q1:=hb _ _ k1;have q7:=hb _ _ k7;delta b44_2 Zn Zr Zk Zb Zi Zg Zo Zc Za Zm;by_cases hkt:k < p.funs[i].cls.length
    ·have hkl:(k:Int) < (p.funs[i].cls.length:Int):=by omega
     have hdk:=ZaY hkt;have hck:=hcli k hkt;rw [Zer hkt] at hR;replace hR:=Zn0 hR;clear k1 k7 hcli
     (repeat' (first | (simp only [↓ZI,ZJ,ptrV,ZnW,ZnY,Zn7,setAt,ZnZ,Zdi,Zjr,Zbc,Zjq,ZbE,Zch,en_80, *]) | (refine Ym ?_ ?_<;>intro) | (refine ZP ?_) | (refine ZK fun zr zh=>?_; have zg:=zh; (try simp only [Zn2] at zg); (try have zn_q1:=ZnX q1 zh); (try have zn_q1:=ZnX q1 zg.2); (try have zn_q1:=ZnX q1 zg.2.2); (try have zn_q7:=ZnX q7 zh); (try have zn_q7:=ZnX q7 zg.2); (try have zn_q7:=ZnX q7 zg.2.2)) | (refine Zn6 ?_ ?_) | (exact SubH.none (by assumption) (by assumption)) | (refine Zn3 (hck) ?_) | (with_reducible refine And.intro ?_ ?_)))
     all_goals try rw [ZR (n:=(k:Int) + 1) (by omega) (by omega)]
     all_goals first
      | omega
      | exact (hs.trans hb2).trans hb
      | exact hb.of_set (hb.none zh)
      | exact hs.none (hb2.none (hb.none zh))
      | (have hne:(!decide (clErr p p.funs[i] p.funs[i].cls[k]=0))=true:=by assumption
         rw [hR.out,if_neg (by simpa using hne)])
      | (have hne:(!decide (clErr p p.funs[i] p.funs[i].cls[k]=0))=false:=by assumption
         exact ⟨k + 1,by omega,rfl,by rw [hR.out,if_pos (by simpa using hne)]⟩)
      | trace_state
    ·have hkl:¬ (k:Int) < (p.funs[i].cls.length:Int):=by omega
     rw [Zop (show p.funs[i].cls.length≤k by omega)] at hR;have e:=Zn0 (show R=Xw p (p.funs.drop (i + 1)) from hR);clear hR
     (repeat' (first | (simp only [↓ZI,ZJ,ptrV,ZnW,ZnY, *]) | (refine Ya rfl (fun _ _ _ h=>h) ?_)))
     delta c44_1 Zm Za
     (repeat' (first | (simp only [↓ZI,ZJ,ptrV,ZnW,ZnY, *]) | (with_reducible refine And.intro ?_ ?_)))
     all_goals try rw [ZR (n:=(i:Int) + 1) (by omega) (by omega)]
     all_goals first
      | omega
      | exact hb2.trans hb
      | exact ⟨i + 1,by omega,rfl,e.out⟩
      | trace_state
  ·have hil:¬ (i:Int) < (p.funs.length:Int):=by omega
   rw [Zop (by omega)] at hR;have e:=Zn0 (show R=0 from hR);clear hR
   (repeat' (first | (simp only [↓ZI,ZJ,ptrV,ZnY, *]) | (refine Ya rfl (fun _ _ _ h=>h) ?_)))
   delta c44_2 Zf
   (repeat' (first | (simp only [↓ZI,ZJ,ZnW,ZnY, *]) | (refine ZP ?_) | (with_reducible refine And.intro ?_ ?_)))
   all_goals first
    | rw [e.out]
    | exact hs.trans hb
theorem check_ok {p:Pr} (hp:PrOk p):PureF Tryz.prog 44 [prV p] (iV (Ji p)):=by
 have hcc:=ZiM p.cons hp.cons hp.cnames;have hnm:∀ i (h:i < p.funs.length),PureF Tryz.prog 77 [sV p.funs[i].name] (boolV (nameB p.funs[i].name)):=fun i h=>Zc3 _ (hp.fnames _ (Zn9 h))
 have hco:=fun n=>ZjG p.cons n hp.cons
 have hN:=hp.funs;refine Zoj fun H0=>?_
 refine ZN fd44 (by simp) ?_;delta c44 Zj Zf Zd Zb Ze Zm Zr Zo Zc Za Zq;obtain ⟨R,hR⟩:∃ R,R=Ji p:=⟨_,rfl⟩
 rw [← hR];unfold Ji at hR;by_cases h100:100 < p.funs.length
 ·rw [if_pos h100] at hR;have hl:(100:Int) < (p.funs.length:Int):=by omega
  replace hR:=Zn0 hR;clear hcc hnm hco
  (repeat' (first | (simp only [↓ZI,ZJ,ptrV,intV,ZnW,ZnY,reduceCtorEq,ZM,ZnZ,undef,WU,ZbF,ZaK, *]) | (refine ZP ?_) | (refine ZK fun zr zh=>?_; have zg:=zh; (try simp only [Zn2] at zg)) | (exact Zn1 _) | (refine Zn6 ?_ ?_) | (with_reducible refine And.intro ?_ ?_)))
  all_goals first
   | rw [hR.out]
   | (rename_i r3 n3 n3'; exact ((Zn5 n3).of_set n3'.2))
   | exact Zn5 zh
 ·rw [if_neg h100] at hR;have hl:¬ (100:Int) < (p.funs.length:Int):=by omega
  by_cases hcz:Jy p.cons=0
  ·rw [if_pos hcz] at hR;rw [hcz] at hcc;have hct:=fun (t:Nat→VV) (B:AH) (r1:Nat) h=>Zld (p:=p) (t:=t) (B:=B) (R:=R) (H0:=H0) (r1:=r1) hp h
   replace hp:=Zn0 hp;obtain ⟨R2,hR2⟩:∃ R2,R2=Xw p p.funs:=⟨_,rfl⟩
   rw [← hR2] at hR;replace hR:=Zn0 hR;replace hR2:=Zn0 hR2;clear hcz
   (repeat' (first | (simp only [↓ZI,ZJ,ptrV,intV,ZnW,ZnY,reduceCtorEq,ZM,ZnZ,undef,XG,WU,Ws,ZbF,ZaK,en_76, *]) | (refine ZK fun zr zh=>?_; have zg:=zh; (try simp only [Zn2] at zg)) | (refine Zn3 (hcc) ?_)))
   refine Jz (fun t H=>SubH H0 H∧H zr=some (.cells 44 [cosV p.cons,fusV p.funs] 0)∧t 1=ptrV zr 0∧t 22=fusV p.funs∧t 23=iV p.funs.length∧t 24=iV 0)
    ⟨Zn5 zh,Zn4 _ _ _,(by simp only [ZL,ZnW,if_true,if_false, *]<;>rfl),(by simp only [ZL,ZnW,if_true,if_false, *]<;>rfl),(by simp only [ZL,ZnW,if_true,if_false, *]<;>rfl),(by simp only [ZL,ZnW,if_true,if_false, *]<;>rfl)⟩ ?_
   clear zh zg hcc;rintro t B ⟨hs,k1,h1,h22,h23,h24⟩
   refine ZW (fun _ _ _ h=>h) (fun A H'=>SubH B H'∧A.d=[]∧A.t 1=ptrV zr 0∧A.t 22=fusV p.funs∧A.t 23=iV p.funs.length∧∃ i:Nat,i≤p.funs.length∧A.t 24=iV i∧R=WY R2 p (p.funs.drop i) i)
    (fun A _=>match A.t 24 with | .lit (.int _ i)=>((p.funs.length:Int) - i).toNat | _=>0) ?_ ?_
   ·exact ⟨Zn1 _,rfl,h1,h22,h23,0,by omega,h24,hR.out⟩
   ·clear hR h1 h22 h23 h24;rintro ⟨t,d⟩ H' ⟨hb,rfl,h1,h22,h23,i,hi,h24,hR⟩;dsimp only at h1 h22 h23 h24;have q1:=hb _ _ k1;delta b44_1 Zn Zr Za Zk Zb Zi Zc Zg Zd Zo Zq Zf Zm Zp Ze;by_cases hlt:i < p.funs.length
    ·have hil:(i:Int) < (p.funs.length:Int):=by omega
     have hdi:=WE hlt;have hni:=hnm i hlt;have hci:=hco p.funs[i].name;rw [Zcx hlt] at hR;replace hR:=Zn0 hR;clear hct k1 hnm hco
     (repeat' (first | (simp only [↓ZI,ZJ,ptrV,intV,boolV,ZnW,ZnY,Zn7,Zor,reduceCtorEq,ZU,ZM,setAt,ZnZ,↓Zgr,↓Zgt,undef,YB,ZoC,Zog,YV,idxV,idxOk,Nat.sub_zero,Zg2,XG,WU,JK,ZbG,Zdi,Ye,Ws,ZbF,Yc,ZhB,Zjp,ZcJ,ZaK,Zch,ZeM,ZaC,ZdR, *]) | (refine YU ?_ ?_<;>intro) | (refine Zcu ?_ ?_<;>intro) | (refine ZY ?_ ?_<;>intro) | (refine Ym ?_ ?_<;>intro) | (refine ZP ?_) | (refine ZS mixed (fun _ _ _ _ e h=>⟨e.trans h.1,h.2⟩) _ (Zn1 _) ?_) | (refine ZK fun zr zh=>?_; have zg:=zh; (try simp only [Zn2] at zg); (try have zn_q1:=ZnX q1 zh); (try have zn_q1:=ZnX q1 zg.2); (try have zn_q1:=ZnX q1 zg.2.2)) | (exact Zn1 _) | (refine Zn6 ?_ ?_) | (exact SubH.none (by assumption) (by assumption)) | (refine Zn3 (hni) ?_) | (refine Zn3 (hci) ?_) | (refine takeFu (by omega) (by omega) ?_) | (with_reducible refine And.intro ?_ ?_)))
     all_goals try rw [ZR (n:=(i:Int) + 1) (by omega) (by omega)]
     all_goals first
      | exact hs.trans hb
      | exact hb.of_set (hb.none zh)
      | exact hs.none (hb.none zh)
      | exact fun h=>trivial
      | omega
      | (refine congrArg (fun z:Int=>VE.ret (iV z)) ?_
         rw [hR.out]; unfold Zbi; repeat' split
         all_goals first
          | rfl
          | omega
          | simp_all
          | (exfalso; simp_all; omega))
      | (refine ⟨i + 1,by omega,rfl,?_⟩
         rw [hR.out]; unfold Zbi; repeat' split
         all_goals first
          | rfl
          | omega
          | simp_all
          | (exfalso; simp_all; omega))
      | trace_state
    ·have hil:¬ (i:Int) < (p.funs.length:Int):=by omega
     rw [Zop (by omega)] at hR;have e:=Zn0 (show R=_ from (show R=R2 from hR).trans hR2.out);clear hR hR2
     (repeat' (first | (simp only [↓ZI,ZJ,ptrV,ZnY, *])))
     exact hct _ _ _ e.out (by simp only [ZL,ZnW,if_false]; exact h1) q1 (hs.trans hb)
  ·rw [if_neg hcz] at hR;replace hR:=Zn0 hR;clear hnm hco
   (repeat' (first | (simp only [↓ZI,ZJ,ptrV,intV,ZnW,ZnY,reduceCtorEq,ZM,ZnZ,undef,XG,WU,Ws,ZbF,ZaK,en_76, *]) | (refine ZP ?_) | (refine ZK fun zr zh=>?_; have zg:=zh; (try simp only [Zn2] at zg)) | (exact Zn1 _) | (refine Zn6 ?_ ?_) | (refine Zn3 (hcc) ?_) | (with_reducible refine And.intro ?_ ?_)))
   all_goals first
    | rw [hR.out]
    | exact Zn5 zh
end Go.PV.YtglpmlbbaedbiaaGreat
end
section
open Bool renaming and_eq_true→ZoN
open Go.PV.Hold renaming mk→Zn0
open Go.PV.PureF renaming forget→Zoj
open Go.PV.SubH renaming refl→Zn1
open Int renaming reduceEq→Zoh
open List renaming getElem_mem→Zn9,getElem?_eq_getElem→ZoH
open Nat renaming reduceEqDiff→ZnW,reduceLT→ZnY,lt_or_ge→Zoy
set_option maxRecDepth 20000
set_option maxHeartbeats 8000000
namespace Go.PV.YtglpmlbbaedbiaaGreat
open Go Go.Proofs
def firN (n:Int):Bool:=letN n || decide (n=95)
def okN (i:Nat) (n:Int):Bool:=firN n || (decide (0 < i) && (digN n || decide (n=39) || decide (n=46)))
theorem Zkz (n:Int):badN n=!(firN n || (digN n || decide (n=39) || decide (n=46))):=by
 unfold badN firN;cases letN n<;>cases digN n<;>simp<;>by_cases h1:n=95<;>by_cases h2:n=39<;>by_cases h3:n=46<;>simp [h1,h2,h3]
theorem Znn (b:ByteArray):nameB b=true↔1≤b.size∧b.size≤40∧∀ i (h:i < b.data.toList.length),okN i (b.data.toList[i].toNat:Int)=true:=by
 have hl:b.size=b.data.toList.length:=by simp
 unfold nameB;cases hd:b.data.toList with
 | nil=>rw [hl,hd]; simp
 | cons c l =>
   rw [hl,hd];simp only [ZoN,decide_eq_true_eq,Bool.not_eq_true',List.any_eq_false]
   constructor
   ·rintro ⟨⟨h1,h2⟩,h3⟩;refine ⟨by simp,h1,fun i h=>?_⟩;cases i with
    | zero=>unfold okN firN; simp only [List.getElem_cons_zero]; rw [h2]; rfl
    | succ i =>
      have:=h3 ((c :: l)[i + 1]) (Zn9 h)
      rw [Zkz] at this;unfold okN;cases hf:firN ((c :: l)[i + 1].toNat:Int) with
      | true=>simp
      | false =>
        rw [hf] at this;simp only [Bool.false_or] at this;simp only [Bool.not_eq_true,Bool.not_eq_false'] at this;rw [this]; simp
   ·rintro ⟨_,h2,h3⟩;refine ⟨⟨h2,?_⟩,fun x hx=>?_⟩
    ·have:=h3 0 (by simp)
     unfold okN firN at this;simpa using this
    ·obtain ⟨i,hi,rfl⟩:=List.mem_iff_getElem.1 hx
     have:=h3 i hi
     unfold okN at this;rw [Zkz];cases hf:firN ((c :: l)[i].toNat:Int) with
     | true=>simp
     | false =>
       rw [hf] at this;simp only [Bool.false_or,ZoN,decide_eq_true_eq] at this;rw [this.2]; simp
theorem ZeV (b:ByteArray) (hb:b.size≤1099511627776):PureF Tryz.prog 87 [.lit (.string b)] (boolV (nameB b)):=by
 refine Zoj fun H=>?_
 refine ZN fd87 (by simp) ?_;delta c87 Zq Za Ze Zm Zp Zr Zf;have hl:b.data.toList.length=b.size:=by simp
 have hu1:(Tryz.prog).underlying 9=some .string:=Tryz.underlying9;obtain ⟨R,hR⟩:∃ R,R=nameB b:=⟨_,rfl⟩
 rw [← hR];have hRi:=Znn b;rw [← hR] at hRi;replace hR:=Zn0 hR;replace hRi:=Zn0 hRi
 have hfal:(¬ (1≤b.size∧b.size≤40))→R=false:=fun h=>by
  cases hr:R with
  | false=>rfl
  | true=>rw [hr] at hRi; have:=hRi.out.1 rfl; exact absurd ⟨this.1,this.2.1⟩ h
 by_cases h1:(b.size:Int) < 1
 ·have e:=Zn0 (hfal (by omega));clear hfal
  (repeat' (first | (simp only [↓ZI,ZJ,intV,boolV,ZnW,ZnY,reduceCtorEq,ZU,ZM,undef, *]) | (refine ZP ?_) | (exact Zn1 _) | (with_reducible refine And.intro ?_ ?_)))
  rw [e.out]
 ·by_cases h40:40 < (b.size:Int)
  ·have e:=Zn0 (hfal (by omega));clear hfal
   (repeat' (first | (simp only [↓ZI,ZJ,intV,boolV,ZnW,ZnY,reduceCtorEq,ZM,undef, *]) | (refine ZP ?_) | (exact Zn1 _) | (with_reducible refine And.intro ?_ ?_)))
   rw [e.out]
  ·clear hfal
   (repeat' (first | (simp only [↓ZI,ZJ,intV,boolV,ZnW,ZnY,reduceCtorEq,ZM,undef, *])))
   refine ZW (fun _ _ _ h=>h) (fun A H'=>SubH H H'∧A.d=[]∧A.t 0=sV b∧∃ i:Nat,i≤b.size∧A.t 3=iV i∧∀ j (h:j < b.data.toList.length),j < i→okN j (b.data.toList[j].toNat:Int)=true)
    (fun A _=>match A.t 3 with | .lit (.int _ i)=>((b.size:Int) - i).toNat | _=>0) ?_ ?_
   ·exact ⟨Zn1 _,rfl,(by simp only [ZL,ZnW,if_false, *]<;>rfl),0,by omega,(by simp only [ZL,ZnW,if_true,if_false, *]<;>rfl),fun j _ h=>by omega⟩
   ·rintro ⟨t,d⟩ H' ⟨hs,rfl,h0,i,hi,h3,hall⟩;dsimp only at h0 h3;delta b87_1 Za Ze Zn Zr Zq Zc Zp Zm;by_cases hlt:i < b.size
    ·have hil:(i:Int) < (b.size:Int):=by omega
     have hi':i < b.data.toList.length:=by omega
     have hget:b.data.toList[i]?=some b.data.toList[i]:=ZoH hi'
     have hok:okN i (b.data.toList[i].toNat:Int)=false→R=false:=fun h=>by
      cases hr:R with
      | false=>rfl
      | true=>rw [hr] at hRi; have:=(hRi.out.1 rfl).2.2 i hi'; rw [h] at this; cases this
     have hok2:okN i (b.data.toList[i].toNat:Int)=true→∀ j (h:j < b.data.toList.length),j < i + 1→okN j (b.data.toList[j].toNat:Int)=true:=fun h j hj hji=>by
      rcases Zoy j i with h2 | h2
      ·exact hall j hj h2
      ·obtain rfl:j=i:=by omega
       exact h
     replace hok:=Zn0 hok;replace hok2:=Zn0 hok2;clear hall
     (repeat' (first | (simp only [↓ZI,ZJ,intV,ZnW,ZnY,reduceCtorEq,ZU,ZM,undef,Zoh,ZmG,ZaS, *]) | (refine WP ?_ ?_<;>intro) | (refine YU ?_ ?_<;>intro) | (refine Zbf ?_ ?_<;>intro) | (refine Ym ?_ ?_<;>intro) | (refine ZP ?_) | (with_reducible refine And.intro ?_ ?_)))
     all_goals try rw [ZR (n:=(i:Int) + 1) (by omega) (by omega)]
     all_goals first
      | exact hs
      | omega
      | (refine congrArg (fun b=>VE.ret (boolV b)) (hok.out ?_).symm
         rw [Bool.eq_false_iff];intro h;unfold okN firN letN digN at h;simp only [Bool.or_eq_true,ZoN,decide_eq_true_eq] at h
         try simp only [Bool.not_eq_true',decide_eq_false_iff_not] at *
         omega)
      | (refine ⟨i + 1,by omega,rfl,fun j h hj=>hok2.out ?_ j (by omega) hj⟩
         unfold okN firN letN digN;simp only [Bool.or_eq_true,ZoN,decide_eq_true_eq]
         try simp only [Bool.not_eq_true',Bool.not_eq_false',decide_eq_false_iff_not,decide_eq_true_eq] at *
         omega)
      | trace_state
    ·have hil:¬ (i:Int) < (b.size:Int):=by omega
     have hRt:R=true:=by
      rw [hRi.out]; exact ⟨by omega,by omega,fun j h=>hall j h (by omega)⟩
     rw [hRt];clear hRt hRi hall
     (repeat' (first | (simp only [↓ZI,ZJ,intV,ZnW,ZnY,reduceCtorEq, *]) | (refine Ya rfl (fun _ _ _ h=>h) ?_)))
     delta c87_1 Zq
     (repeat' (first | (simp only [↓ZI,ZJ,ZnW,ZnY, *]) | (refine ZP ?_)))
end Go.PV.YtglpmlbbaedbiaaGreat
end
section
open Go.PV.AH renaming set_none→Zn2,set_same→Zn4
open Go.PV.Hold renaming mk→Zn0
open Go.PV.PureF renaming forget→Zoj
open Go.PV.SubH renaming refl→Zn1,new→Zn5
open Int renaming reduceNeg→ZoA
open List renaming drop→ZnZ,drop_eq_nil_of_le→Zop
open Nat renaming reduceLT→ZnY,reduceEqDiff→ZnW,lt_or_ge→Zoy
set_option maxRecDepth 20000
set_option maxHeartbeats 8000000
namespace Go.PV.YtglpmlbbaedbiaaGreat
open Go Go.Proofs
theorem Zc6 (l:List Co) (n:ByteArray) (hl:l.length≤1099511627776):PureF Tryz.prog 88 [cosV l,sV n] (iV (atCo l n)):=by
 refine Zoj fun H=>?_
 refine ZN fd88 (by simp) ?_;delta c88 Zf;unfold atCo
 (repeat' (first | (simp only [↓ZI,ZJ,ZnY,ZM,undef, *])))
 refine ZW (fun _ _ _ h=>h) (fun A H'=>H'=H∧A.d=[]∧A.t 0=cosV l∧A.t 1=sV n∧∃ i:Nat,i≤l.length∧A.t 5=iV i∧∀ j (h:j < l.length),j < i→decide (l[j].name=n)=false)
  (fun A _=>match A.t 5 with | .lit (.int _ i)=>((l.length:Int) - i).toNat | _=>0) ?_ ?_
 ·exact ⟨rfl,rfl,rfl,rfl,0,by simp,rfl,by simp⟩
 ·rintro ⟨t,d⟩ H' ⟨rfl,rfl,h0,h1,i,hi,h5,hj⟩;dsimp only at h0 h1 h5;delta b88_1 Za Ze Zn Zr Zk Zd Zb Zc Zm;by_cases hlt:i < l.length
  ·have hil:(i:Int) < (l.length:Int):=by omega
   have hdi:=Jx hlt;replace hj:=Zn0 hj
   (repeat' (first | (simp only [↓ZI,ZJ,↓Xd,intV,ZnW,ZnY,reduceCtorEq,ZnZ,Zfl,Ye,Ja, *]) | (refine ZY ?_ ?_<;>intro) | (refine ZP ?_) | (exact Zn1 _) | (with_reducible refine And.intro ?_ ?_)))
   all_goals try rw [ZR (n:=(i:Int) + 1) (by omega) (by omega)]
   all_goals first
    | omega
    | (have hn:l[i].name=n:=by assumption
       rw [← XP (p:=fun c=>decide (c.name=n)) hlt (by simpa using hn) (fun j h=>hj.out j (by omega) h)])
    | (have hn:¬ l[i].name=n:=by assumption
       refine ⟨i + 1,by omega,rfl,fun j h h'=>?_⟩;rcases Zoy j i with h2 | h2
       ·exact hj.out j h h2
       ·obtain rfl:j=i:=by omega
        simpa using hn)
  ·have hil:¬ (i:Int) < (l.length:Int):=by omega
   have e:=Zn0 (Wp (p:=fun c=>decide (c.name=n)) fun j h=>hj j h (by omega));clear hj
   (repeat' (first | (simp only [↓ZI,ZJ,intV,ZnW,ZnY,reduceCtorEq,Ja, *]) | (refine Ya rfl (fun _ _ _ h=>h) ?_)))
   delta c88_1 Zq
   (repeat' (first | (simp only [↓ZI,ZJ,ZnW,ZnY,ZoA, *]) | (refine ZP ?_)))
   rw [e.out];exact ⟨rfl,Zn1 _⟩
theorem Zio (l:List Fu) (n:ByteArray) (hl:l.length≤1099511627776):PureF Tryz.prog 89 [fusV l,sV n] (iV (atFu l n)):=by
 refine Zoj fun H=>?_
 refine ZN fd89 (by simp) ?_;delta c89 Zf;unfold atFu
 (repeat' (first | (simp only [↓ZI,ZJ,ZnY,ZM,undef, *])))
 refine ZW (fun _ _ _ h=>h) (fun A H'=>H'=H∧A.d=[]∧A.t 0=fusV l∧A.t 1=sV n∧∃ i:Nat,i≤l.length∧A.t 5=iV i∧∀ j (h:j < l.length),j < i→decide (l[j].name=n)=false)
  (fun A _=>match A.t 5 with | .lit (.int _ i)=>((l.length:Int) - i).toNat | _=>0) ?_ ?_
 ·exact ⟨rfl,rfl,rfl,rfl,0,by simp,rfl,by simp⟩
 ·rintro ⟨t,d⟩ H' ⟨rfl,rfl,h0,h1,i,hi,h5,hj⟩;dsimp only at h0 h1 h5;delta b89_1 Za Ze Zn Zr Zk Zd Zb Zc Zm;by_cases hlt:i < l.length
  ·have hil:(i:Int) < (l.length:Int):=by omega
   have hdi:=WE hlt;replace hj:=Zn0 hj
   (repeat' (first | (simp only [↓ZI,ZJ,↓Xd,intV,ZnW,ZnY,reduceCtorEq,ZnZ,ZeL,Ye,Wd, *]) | (refine ZY ?_ ?_<;>intro) | (refine ZP ?_) | (exact Zn1 _) | (with_reducible refine And.intro ?_ ?_)))
   all_goals try rw [ZR (n:=(i:Int) + 1) (by omega) (by omega)]
   all_goals first
    | omega
    | (have hn:l[i].name=n:=by assumption
       rw [← XP (p:=fun c=>decide (c.name=n)) hlt (by simpa using hn) (fun j h=>hj.out j (by omega) h)])
    | (have hn:¬ l[i].name=n:=by assumption
       refine ⟨i + 1,by omega,rfl,fun j h h'=>?_⟩;rcases Zoy j i with h2 | h2
       ·exact hj.out j h h2
       ·obtain rfl:j=i:=by omega
        simpa using hn)
  ·have hil:¬ (i:Int) < (l.length:Int):=by omega
   have e:=Zn0 (Wp (p:=fun c=>decide (c.name=n)) fun j h=>hj j h (by omega));clear hj
   (repeat' (first | (simp only [↓ZI,ZJ,intV,ZnW,ZnY,reduceCtorEq,Wd, *]) | (refine Ya rfl (fun _ _ _ h=>h) ?_)))
   delta c89_1 Zq
   (repeat' (first | (simp only [↓ZI,ZJ,ZnW,ZnY,ZoA, *]) | (refine ZP ?_)))
   rw [e.out];exact ⟨rfl,Zn1 _⟩
theorem Zno (p:Pr) (n:ByteArray) (hl:p.cons.length≤1099511627776):PureF Tryz.prog 91 [prV p,sV n] (iV (atCo p.cons n)):=by
 refine Zoj fun H=>?_
 refine ZN fd91 (by simp) ?_;delta c91 Zj Zf;unfold atCo
 (repeat' (first | (simp only [↓ZI,ZJ,ptrV,ZnY,ZM,undef, *]) | (refine ZK fun zr zh=>?_; have zg:=zh; (try simp only [Zn2] at zg))))
 have hs0:=Zn5 (b:=.cells 25 [cosV p.cons,fusV p.funs] 0) zh
 refine ZW (fun _ _ _ h=>h) (fun A H'=>H'=H.set zr (.cells 25 [cosV p.cons,fusV p.funs] 0)∧A.d=[]∧A.t 2=ptrV zr 0∧A.t 1=sV n∧∃ i:Nat,i≤p.cons.length∧A.t 5=iV i∧∀ j (h:j < p.cons.length),j < i→decide (p.cons[j].name=n)=false)
  (fun A _=>match A.t 5 with | .lit (.int _ i)=>((p.cons.length:Int) - i).toNat | _=>0) ?_ ?_
 ·exact ⟨rfl,rfl,rfl,rfl,0,by simp,rfl,by simp⟩
 ·rintro ⟨t,d⟩ H' ⟨hH,rfl,h2,h1,i,hi,h5,hj⟩;dsimp only at h2 h1 h5;have k2:H' zr=some (.cells 25 [cosV p.cons,fusV p.funs] 0):=by rw [hH]; exact Zn4 _ _ _
  have hs:SubH H H':=by rw [hH]; exact hs0
  replace hH:=Zn0 hH;delta b91_1 Za Zd Zb Ze Zn Zr Zk Zc Zm;by_cases hlt:i < p.cons.length
  ·have hil:(i:Int) < (p.cons.length:Int):=by omega
   have hdi:=Jx hlt;replace hj:=Zn0 hj
   (repeat' (first | (simp only [↓ZI,ZJ,↓Xd,ptrV,intV,ZnW,ZnY,reduceCtorEq,ZnZ,Wr,Zfl,Zav,Ye,Ja, *]) | (refine ZY ?_ ?_<;>intro) | (refine ZP ?_) | (with_reducible refine And.intro ?_ ?_)))
   all_goals try rw [ZR (n:=(i:Int) + 1) (by omega) (by omega)]
   all_goals first
    | omega
    | exact hs
    | exact hH.out
    | (have hn:p.cons[i].name=n:=by assumption
       rw [← XP (p:=fun c=>decide (c.name=n)) hlt (by simpa using hn) (fun j h=>hj.out j (by omega) h)])
    | (have hn:¬ p.cons[i].name=n:=by assumption
       refine ⟨i + 1,by omega,rfl,fun j h h'=>?_⟩;rcases Zoy j i with h2 | h2
       ·exact hj.out j h h2
       ·obtain rfl:j=i:=by omega
        simpa using hn)
  ·have hil:¬ (i:Int) < (p.cons.length:Int):=by omega
   have e:=Zn0 (Wp (p:=fun c=>decide (c.name=n)) fun j h=>hj j h (by omega));clear hj
   (repeat' (first | (simp only [↓ZI,ZJ,ptrV,intV,ZnW,ZnY,reduceCtorEq,ZnZ,Wr,Zav,Ja, *]) | (refine Ya rfl (fun _ _ _ h=>h) ?_)))
   delta c91_1 Zq
   (repeat' (first | (simp only [↓ZI,ZJ,ZnW,ZnY,ZoA, *]) | (refine ZP ?_)))
   all_goals first
    | rw [e.out]
    | exact hs
theorem Zbv (p:Pr) (n:ByteArray) (hl:p.funs.length≤1099511627776):PureF Tryz.prog 56 [prV p,sV n] (iV (atFu p.funs n)):=by
 refine Zoj fun H=>?_
 refine ZN fd56 (by simp) ?_;delta c56 Zj Zf;unfold atFu
 (repeat' (first | (simp only [↓ZI,ZJ,ptrV,ZnY,ZM,undef, *]) | (refine ZK fun zr zh=>?_; have zg:=zh; (try simp only [Zn2] at zg))))
 have hs0:=Zn5 (b:=.cells 25 [cosV p.cons,fusV p.funs] 0) zh
 refine ZW (fun _ _ _ h=>h) (fun A H'=>H'=H.set zr (.cells 25 [cosV p.cons,fusV p.funs] 0)∧A.d=[]∧A.t 2=ptrV zr 0∧A.t 1=sV n∧∃ i:Nat,i≤p.funs.length∧A.t 5=iV i∧∀ j (h:j < p.funs.length),j < i→decide (p.funs[j].name=n)=false)
  (fun A _=>match A.t 5 with | .lit (.int _ i)=>((p.funs.length:Int) - i).toNat | _=>0) ?_ ?_
 ·exact ⟨rfl,rfl,rfl,rfl,0,by simp,rfl,by simp⟩
 ·rintro ⟨t,d⟩ H' ⟨hH,rfl,h2,h1,i,hi,h5,hj⟩;dsimp only at h2 h1 h5;have k2:H' zr=some (.cells 25 [cosV p.cons,fusV p.funs] 0):=by rw [hH]; exact Zn4 _ _ _
  have hs:SubH H H':=by rw [hH]; exact hs0
  replace hH:=Zn0 hH;delta b56_1 Za Zd Zb Ze Zn Zr Zk Zc Zm;by_cases hlt:i < p.funs.length
  ·have hil:(i:Int) < (p.funs.length:Int):=by omega
   have hdi:=WE hlt;replace hj:=Zn0 hj
   (repeat' (first | (simp only [↓ZI,ZJ,↓Xd,ptrV,intV,ZnW,ZnY,reduceCtorEq,ZnZ,Xj,ZeL,Wz,Ye,Wd, *]) | (refine ZY ?_ ?_<;>intro) | (refine ZP ?_) | (with_reducible refine And.intro ?_ ?_)))
   all_goals try rw [ZR (n:=(i:Int) + 1) (by omega) (by omega)]
   all_goals first
    | omega
    | exact hs
    | exact hH.out
    | (have hn:p.funs[i].name=n:=by assumption
       rw [← XP (p:=fun c=>decide (c.name=n)) hlt (by simpa using hn) (fun j h=>hj.out j (by omega) h)])
    | (have hn:¬ p.funs[i].name=n:=by assumption
       refine ⟨i + 1,by omega,rfl,fun j h h'=>?_⟩;rcases Zoy j i with h2 | h2
       ·exact hj.out j h h2
       ·obtain rfl:j=i:=by omega
        simpa using hn)
  ·have hil:¬ (i:Int) < (p.funs.length:Int):=by omega
   have e:=Zn0 (Wp (p:=fun c=>decide (c.name=n)) fun j h=>hj j h (by omega));clear hj
   (repeat' (first | (simp only [↓ZI,ZJ,ptrV,intV,ZnW,ZnY,reduceCtorEq,ZnZ,Xj,Wz,Wd, *]) | (refine Ya rfl (fun _ _ _ h=>h) ?_)))
   delta c56_1 Zq
   (repeat' (first | (simp only [↓ZI,ZJ,ZnW,ZnY,ZoA, *]) | (refine ZP ?_)))
   all_goals first
    | rw [e.out]
    | exact hs
theorem Zip (l:List ByteArray) (s:ByteArray) (hl:l.length≤1099511627776):PureF Tryz.prog 127 [strsV l,sV s] (boolV (hasF l s)):=by
 refine Zoj fun H=>?_
 refine ZN fd127 (by simp) ?_;delta c127 Zq Zf
 (repeat' (first | (simp only [↓ZI,ZJ,boolV,ZnY,ZM,undef, *])))
 refine ZW (fun _ _ _ h=>h) (fun A H'=>H'=H∧A.d=[]∧A.t 0=strsV l∧A.t 1=sV s∧∃ (i:Nat),i≤l.length∧A.t 5=iV i∧hasF l s=hasF (l.drop i) s)
  (fun A _=>match A.t 5 with | .lit (.int _ i)=>((l.length:Int) - i).toNat | _=>0) ?_ ?_
 ·exact ⟨rfl,rfl,rfl,rfl,0,by omega,rfl,rfl⟩
 ·rintro ⟨t,d⟩ H' ⟨rfl,rfl,h0,h1,i,hi,h5,hh⟩;dsimp only at h0 h1 h5;rw [hh];clear hh;delta b127_1 Za Ze Zn Zr Zk Zb Zq Zm Zc
  (repeat' (first | (simp only [↓ZI,ZJ,↓Xd,intV,ZnW,ZnY,reduceCtorEq,Zar,Ye,YH, *]) | (refine ZY ?_ ?_<;>intro) | (refine ZP ?_) | (refine Ya rfl (fun _ _ _ h=>h) ?_) | (exact Zn1 _) | (with_reducible refine And.intro ?_ ?_)))
  ·have hlt:i < l.length:=by assumption
   have he:l[i]=s:=by assumption
   rw [Zc5 hlt,decide_eq_true he,Bool.true_or]
  ·have hlt:i < l.length:=by assumption
   have he:¬ l[i]=s:=by assumption
   rw [ZR (n:=(i:Int) + 1) (by omega) (by omega)];exact ⟨i + 1,by omega,rfl,by rw [Zc5 hlt,decide_eq_false he,Bool.false_or]⟩
  ·rw [ZR (n:=(i:Int) + 1) (by omega) (by omega)];omega
  ·rw [Zop (by omega)];delta c127_1 Zq
   (repeat' (first | (simp only [↓ZI,ZJ,ZnW,ZnY, *]) | (refine ZP ?_)))
   exact ⟨rfl,Zn1 _⟩
end Go.PV.YtglpmlbbaedbiaaGreat
end
section
open Go.PV.AH renaming set_ne→Zoa,set_same→Zn4,set_none→Zn2,get→Zn8,ne_of→ZnX
open Go.PV.Hold renaming mk→Zn0
open Go.PV.SubH renaming new→Zn5,refl→Zn1
open Int renaming toNat_natCast→ZoJ
open List renaming getElem?_eq_getElem→ZoH,drop→ZnZ,getElem_mem→Zn9,map_cons→Zou,map_nil→ZoE,length_cons→Zox,all_cons→ZoT,set_cons_zero→Zo1,set_cons_succ→Zo0,drop_zero→ZoB
open Nat renaming reduceEqDiff→ZnW,reduceLT→ZnY,reduceAdd→Zn7,reduceLeDiff→Zof,succ_ne_self→ZoD,zero_add→Zot,add_zero→ZoL,le_refl→Zoc
open Option renaming map_some→Zog
set_option maxRecDepth 20000
set_option maxHeartbeats 4000000
namespace Go.PV.YtglpmlbbaedbiaaGreat
open Go Go.Proofs
theorem Zaa:Zdq Tryz.prog 82 (.pointer none):=Zl0 (kt:=9) (et:=137) (by kernel_rfl) (by kernel_rfl) (by kernel_rfl)
theorem Zc7:Zdq Tryz.prog 83 (.int .i64 0):=Zl0 (kt:=9) (et:=3) (by kernel_rfl) (by kernel_rfl) (by kernel_rfl)
def funMk (l:List Fu):Nat→ByteArray→Option VV
 | 0=>fun _=>none
 | k + 1=>match l[k]? with | some f=>supd (funMk l k) f.name (.iptr ((encC fuE l).drop (k * 3))) | none=>funMk l k
def conMk (l:List Co):Nat→ByteArray→Option VV
 | 0=>fun _=>none
 | k + 1=>match l[k]? with | some f=>supd (conMk l k) f.name (iV f.arity) | none=>conMk l k
theorem Zle {l:List Fu} {k:Nat} (h:k < l.length):funMk l (k + 1)=supd (funMk l k) l[k].name (.iptr ((encC fuE l).drop (k * 3))):=by
 rw [funMk,ZoH h]
theorem Zlf {l:List Co} {k:Nat} (h:k < l.length):conMk l (k + 1)=supd (conMk l k) l[k].name (iV l[k].arity):=by
 rw [conMk,ZoH h]
abbrev fmB (m:ByteArray→Option VV):Blk:=.map (Wq Tryz.prog 82) (smap m)
abbrev cmB (m:ByteArray→Option VV):Blk:=.map (Wq Tryz.prog 83) (smap m)
abbrev tabE (m1 m2:Nat):List VV:=[.lit (.map (some m1)),.lit (.map (some m2))]
def TabAt (H:AH) (v:VV) (p:Pr):Prop:=∃ m1 m2,v=.agg (tabE m1 m2)∧H m1=some (fmB (funMk p.funs p.funs.length))∧H m2=some (cmB (conMk p.cons p.cons.length))
theorem TabAt.mono {H H':AH} {v:VV} {p:Pr} (h:TabAt H v p) (hs:SubH H H'):TabAt H' v p:=by
 obtain ⟨m1,m2,h0,h1,h2⟩:=h;exact ⟨m1,m2,h0,hs _ _ h1,hs _ _ h2⟩
theorem Znp (t:TypeId) (H:AH) (K:VE→AH→Prop):ZaJ Tryz.prog t H K=Zdn H fun r=>K (.ret (.lit (.map (some r)))) (H.set r (.map (Wq Tryz.prog t) (smap fun _=>none))):=by
 rw [← Zku]; rfl
structure TInv (H0:AH) (r1 r2 r3 m1 m2:Nat) (p:Pr) (i k:Nat) (H:AH):Prop where
 sub:SubH H0 H
 b1:H r1=some (.cells 44 [cosV p.cons,fusV p.funs] 0)
 b2:∃ z1 z2,H r2=some (.cells 85 [z1,z2] 0)
 b3:H r3=some (.cells 85 (tabE m1 m2) 0)
 bm:H m1=some (fmB (funMk p.funs i))
 bc:H m2=some (cmB (conMk p.cons k))
theorem ZaQ {H:AH} {a b:Nat} {e:TypeId} {xs:List VV} {sp:Nat} {P:Value→Prop} {m:Value→Option VV} (h:H a=some (.cells e xs sp)) (h':H b=some (.map P m)):¬ a=b∧¬ b=a:=by
 refine ⟨fun e=>?_,fun e=>?_⟩<;>subst e<;>rw [h] at h'<;>cases h'
theorem TInv.setF {H0:AH} {r1 r2 r3 m1 m2:Nat} {p:Pr} {i k:Nat} {H:AH} (h:TInv H0 r1 r2 r3 m1 m2 p i k H) (g1:H0 m1=none) (hm:¬ m1=m2) (hi:i < p.funs.length) {cs:List VV} (hc:(encC fuE p.funs).drop (i * 3)=cs) :
 TInv H0 r1 r2 r3 m1 m2 p (i + 1) k (H.set m1 (fmB (supd (funMk p.funs i) p.funs[i].name (.iptr cs)))):=by
 obtain ⟨z1,z2,b2⟩:=h.b2;refine ⟨h.sub.of_set g1,?_,⟨z1,z2,?_⟩,?_,?_,?_⟩
 ·rw [Zoa _ _ (ZaQ h.b1 h.bm).1]; exact h.b1
 ·rw [Zoa _ _ (ZaQ b2 h.bm).1]; exact b2
 ·rw [Zoa _ _ (ZaQ h.b3 h.bm).1]; exact h.b3
 ·rw [Zn4,Zle hi,hc]
 ·rw [Zoa _ _ (fun e=>hm e.symm)]; exact h.bc
theorem TInv.setC {H0:AH} {r1 r2 r3 m1 m2:Nat} {p:Pr} {i k:Nat} {H:AH} (h:TInv H0 r1 r2 r3 m1 m2 p i k H) (g2:H0 m2=none) (hm:¬ m1=m2) (hk:k < p.cons.length) :
 TInv H0 r1 r2 r3 m1 m2 p i (k + 1) (H.set m2 (cmB (supd (conMk p.cons k) p.cons[k].name (iV p.cons[k].arity)))):=by
 obtain ⟨z1,z2,b2⟩:=h.b2;refine ⟨h.sub.of_set g2,?_,⟨z1,z2,?_⟩,?_,?_,?_⟩
 ·rw [Zoa _ _ (ZaQ h.b1 h.bc).1]; exact h.b1
 ·rw [Zoa _ _ (ZaQ b2 h.bc).1]; exact b2
 ·rw [Zoa _ _ (ZaQ h.b3 h.bc).1]; exact h.b3
 ·rw [Zoa _ _ hm]; exact h.bm
 ·rw [Zn4,Zlf hk]
theorem TInv.alloc {H0:AH} {r1 r2 r3 m1 m2:Nat} {p:Pr} {i k:Nat} {H:AH} (h:TInv H0 r1 r2 r3 m1 m2 p i k H) {z:Nat} (hz:H z=none) (b:Blk):TInv H0 r1 r2 r3 m1 m2 p i k (H.set z b):=by
 obtain ⟨z1,z2,b2⟩:=h.b2;have s:=Zn5 (b:=b) hz;exact ⟨h.sub.trans s,s _ _ h.b1,⟨z1,z2,s _ _ b2⟩,s _ _ h.b3,s _ _ h.bm,s _ _ h.bc⟩
theorem Znq {p:Pr} (hpc:p.cons.length≤1099511627776) (hpf:p.funs.length≤1099511627776) (hnc:∀ c∈p.cons,c.name.size≤maxLen) (hnf:∀ f∈p.funs,f.name.size≤maxLen) {H0:AH} {K:VE→AH→Prop} (hK:∀ v H',SubH H0 H'→TabAt H' v p→K (.ret v) H') :
 Yh Tryz.prog 45 [prV p] H0 K:=by
 refine ZN fd45 (by simp) ?_;delta c45 Zj Zi Zq Zr Zg Zd Zb Ze;replace hK:=Zn0 hK
 (repeat' (first | (simp only [↓ZI,ZJ,↓Zh6,ptrV,intV,ZnW,ZnY,Zn7,Zof,reduceCtorEq,ZM,ZX,fillV,setAt,ZnZ,cl_map,undef,Znp,ZX,WU,ZbF,JG,Zjo,Wj,ZaK, *]) | (refine ZK fun zr zh=>?_; have zg:=zh; (try simp only [Zn2] at zg))))
 rename_i r1 n1 n1' r2 n2 n2' m1 k1 k1' m2 k2 k2';have hm12:¬ m1=m2:=k2'.1.2;have g1:=k1'.2.2;have g2:=k2'.2.2.2;have g3:=n2'.2
 refine Jz (fun t H=>TInv H0 r1 r2 zr m1 m2 p 0 0 H∧t 1=ptrV r1 0∧t 2=ptrV r2 0∧t 3=ptrV zr 0∧t 11=fusV p.funs∧t 12=iV p.funs.length∧t 13=iV 0)
  ⟨⟨((((Zn5 n1).of_set n2'.2).of_set g1).of_set g2).of_set zg.2.2.2.2,(by simp only [Zn8, *,if_true,if_false]<;>rfl),⟨_,_,(by simp only [Zn8, *,if_true,if_false]<;>rfl)⟩,Zn4 _ _ _,(by simp only [Zn8, *,if_true,if_false]<;>rfl),(by simp only [Zn8, *,if_true,if_false]<;>rfl)⟩,(by simp only [ZL,ZnW,if_true,if_false, *]<;>rfl),(by simp only [ZL,ZnW,if_true,if_false, *]<;>rfl),(by simp only [ZL,ZnW,if_true,if_false, *]<;>rfl),(by simp only [ZL,ZnW,if_true,if_false, *]<;>rfl),(by simp only [ZL,ZnW,if_true,if_false, *]<;>rfl),(by simp only [ZL,ZnW,if_true,if_false, *]<;>rfl)⟩ ?_
 clear n1 n1' n2 n2' k1 k1' k2 k2' zh zg;generalize zr=r3;rintro t B ⟨hI,h1,h2,h3,h11,h12,h13⟩
 refine ZW (fun _ _ _ h=>h) (fun A H'=>A.d=[]∧A.t 1=ptrV r1 0∧A.t 2=ptrV r2 0∧A.t 3=ptrV r3 0∧A.t 11=fusV p.funs∧A.t 12=iV p.funs.length∧∃ i:Nat,i≤p.funs.length∧A.t 13=iV i∧TInv H0 r1 r2 r3 m1 m2 p i 0 H')
  (fun A _=>match A.t 13 with | .lit (.int _ i)=>((p.funs.length:Int) - i).toNat | _=>0) ?_ ?_
 ·exact ⟨rfl,h1,h2,h3,h11,h12,0,by omega,h13,hI⟩
 ·clear hI h1 h2 h3 h11 h12 h13;rintro ⟨t,d⟩ H' ⟨rfl,h1,h2,h3,h11,h12,i,hi,h13,hI⟩;dsimp only at h1 h2 h3 h11 h12 h13;delta b45_1 Zn Zr Za Zc Zd Zb Zk Zm;have q1:=hI.b1;have q3:=hI.b3;have qm:=hI.bm;replace hI:=Zn0 hI;by_cases hlt:i < p.funs.length
  ·have hil:(i:Int) < (p.funs.length:Int):=by omega
   have hdi:=WE hlt;have hzi:=hnf _ (Zn9 hlt);clear hnc hnf
   (repeat' (first | (refine Zfp Zaa hzi qm ?_) | (simp only [↓JH,↓WV,↓WW,↓Wu,↓Ww,↓XA,↓ZbJ,↓WX,↓Xe,↓Xf,↓Zcl,↓XK,↓XL,↓Zax,↓XM,↓Zay,↓XN,↓We,↓ZL,↓WA,↓Xk,↓Wf,↓JB,↓YQ,↓Wa,↓ZcA,↓Jw,↓Zbr,ptrV,ite_true,ite_false,ZnW,ZnY,ne_eq,not_false_eq_true,true_and,ZoD,decide_true,Int.natCast_nonneg,ZoJ,↓Zao,↓Zap,eq_self,Zot,ZoL,ZnZ,and_self,Zaf,ZdU,JC,Zk0,ZaW,ZfV,Zcn,JD,ZdV,Jo,ZaX,↓ZeQ,Za6,WU,Zg2,ZeA,ZbF,Ye,ZaK, *]) | (refine ZS mixed (fun _ _ _ _ e h=>⟨e.trans h.1,h.2⟩) _ (Zn1 _) ?_) | (with_reducible refine And.intro ?_ ?_)))
   all_goals rw [ZR (n:=(i:Int) + 1) (by omega) (by omega)]
   ·exact ⟨i + 1,by omega,rfl,hI.out.setF g1 hm12 hlt hdi⟩
   ·omega
  ·have hil:¬ (i:Int) < (p.funs.length:Int):=by omega
   have hie:i=p.funs.length:=by omega
   subst hie;clear hil
   (repeat' (first | (simp only [↓ZI,ZJ,ptrV,ZnY, *])))
   delta c45_2 Zd Zb Ze Zq;refine Ya rfl (fun _ _ _ h=>h) ?_
   (repeat' (first | (simp only [↓ZI,ZJ,ptrV,intV,ZnW,ZnY,reduceCtorEq,ZnZ,XG,Ws,Zaw, *])))
   refine ZW (fun _ _ _ h=>h) (fun A H'=>A.d=[]∧A.t 1=ptrV r1 0∧A.t 2=ptrV r2 0∧A.t 3=ptrV r3 0∧A.t 30=cosV p.cons∧A.t 31=iV p.cons.length∧∃ k:Nat,k≤p.cons.length∧A.t 32=iV k∧TInv H0 r1 r2 r3 m1 m2 p p.funs.length k H')
    (fun A _=>match A.t 32 with | .lit (.int _ k)=>((p.cons.length:Int) - k).toNat | _=>0) ?_ ?_
   ·exact ⟨rfl,(by simp only [ZL,ZnW,if_false, *]<;>rfl),(by simp only [ZL,ZnW,if_false, *]<;>rfl),(by simp only [ZL,ZnW,if_false, *]<;>rfl),(by simp only [ZL,ZnW,if_true,if_false, *]<;>rfl),(by simp only [ZL,ZnW,if_true,if_false, *]<;>rfl),0,by omega,(by simp only [ZL,ZnW,if_true,if_false, *]<;>rfl),hI.out⟩
   ·clear hI h1 h2 h3 h11 h12 h13 q1 q3 qm;rintro ⟨t,d⟩ H' ⟨rfl,h1,h2,h3,h30,h31,k,hk,h32,hI⟩;dsimp only at h1 h2 h3 h30 h31 h32;delta b45_2 Zn Zr Zk Zb Zi Zg Zd Zm Za;by_cases hkt:k < p.cons.length
    ·have hkl:(k:Int) < (p.cons.length:Int):=by omega
     have hdk:=Jx hkt;have hzk:=hnc _ (Zn9 hkt);have q1:=hI.b1;have q3:=hI.b3;have qm:=fun z b hz=>(hI.alloc (z:=z) hz b).bc
     replace hI:=Zn0 hI;clear hnc hnf
     (repeat' (first | (refine Zfp Zc7 hzk (qm _ _ (by assumption)) ?_) | (simp only [↓JH,↓WV,↓WW,↓Wu,↓Ww,↓XA,↓WX,↓Xe,↓Xf,↓Zcl,↓XK,↓XL,↓Zax,↓XM,↓Zay,↓XN,↓We,↓ZL,↓WA,↓Wf,↓JO,↓JB,↓Jg,↓YQ,↓Wa,↓ZcA,↓Jw,↓Zbr,ptrV,Zou,ZoE,Zox,List.length_nil,ite_true,ite_false,ZnW,ZnY,Zn7,ne_eq,not_false_eq_true,true_and,ZoD,decide_true,Int.natCast_nonneg,ZoJ,Zn8,AH.set_set,setAt,ZoT,List.all_nil,Bool.and_self,eq_self,Zot,ZoL,ZnZ,and_self,Zaf,ZjD,ZbN,Zcm,WB,Zo1,Zo0,↓Jh,Wv,Zoc,ZdU,JC,ZaW,ZfV,Zcn,JD,ZdV,Jo,ZaX,ZdW,ZdX,ZeN,Zg3,ZbH,Ye,ZlH,Zjs,Yc,szT_76,ZeK,Zaw, *]) | (refine ZK fun zr zh=>?_; have zg:=zh; (try simp only [Zn2] at zg); (try have zn_q1:=ZnX q1 zh); (try have zn_q1:=ZnX q1 zg.2); (try have zn_q1:=ZnX q1 zg.2.2); (try have zn_q3:=ZnX q3 zh); (try have zn_q3:=ZnX q3 zg.2); (try have zn_q3:=ZnX q3 zg.2.2)) | (with_reducible refine And.intro ?_ ?_)))
     all_goals rw [ZR (n:=(k:Int) + 1) (by omega) (by omega)]
     ·exact ⟨k + 1,by omega,rfl,(hI.out.alloc zh _).setC g2 hm12 hkt⟩
     ·omega
    ·have hkl:¬ (k:Int) < (p.cons.length:Int):=by omega
     have hke:k=p.cons.length:=by omega
     subst hke;clear hkl
     (repeat' (first | (simp only [↓ZI,ZJ,ptrV,ZnY, *]) | (refine Ya rfl (fun _ _ _ h=>h) ?_)))
     delta c45_1 Zb Zg;obtain ⟨z1,z2,q2⟩:=hI.b2;have q3:=hI.b3;replace hI:=Zn0 hI
     (repeat' (first | (simp only [↓ZI,ZJ,ptrV,ZnW,ZnY,Zn7,setAt,ZnZ,WR,JG, *])))
     refine Yk (x:=.agg (tabE m1 m2)) rfl ?_ (hK.out _ _ (hI.out.sub.of_set g3) ⟨m1,m2,rfl,?_,?_⟩)
     ·simp only [resV,YO,YN,WR,ZL,ZnW,if_false,h2,Zn4,ptrV,ZoB,Zog]; rfl
     ·rw [Zoa _ _ (ZaQ q2 hI.out.bm).2]; exact hI.out.bm
     ·rw [Zoa _ _ (ZaQ q2 hI.out.bc).2]; exact hI.out.bc
end Go.PV.YtglpmlbbaedbiaaGreat
end
