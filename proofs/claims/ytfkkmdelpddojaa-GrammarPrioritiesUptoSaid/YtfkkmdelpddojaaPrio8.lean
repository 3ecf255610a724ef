/- Part 8 of 10 of what the proof of Prio needs. -/
import Derived.Test.YtfkkmdelpddojaaPrio7
set_option linter.unusedVariables false
set_option linter.unusedSimpArgs false
set_option linter.defProp false
section
open Bool renaming not_true→ZmK,and_self→Zmp,false_eq_true→Zmv,not_false→ZmG,false_and→Zm6
open Int renaming toNat_natCast→Zmw,natCast_nonneg→ZmL
open List renaming drop_eq_getElem_cons→ZmY,drop_eq_nil_of_le→Znb,length_cons→Zmi,drop→Zmb,getElem?_eq_getElem→ZmW,range→Zmm,map_cons→Zmd,map_nil→Zmg,length_nil→Zml,getD_cons_zero→Zmq,getD_cons_succ→Zmr,getD_nil→Zms,all_cons→Zmz,all_nil→ZmJ,set_cons_zero→Zmn,set_cons_succ→Zmy,getElem_mem→ZmE,getElem?_cons_zero→ZmC,getElem?_cons_succ→ZmD
open Nat renaming lt_or_ge→ZmI,le_refl→Zmc,reduceEqDiff→Zl9,reduceLT→Zma,reduceAdd→Zmj,succ_ne_self→Zme,zero_add→Zmh,add_zero→Zmo,reduceLeDiff→Zmu
open Option renaming map_none→Zna,map_some→Zm1
set_option maxRecDepth 20000
set_option maxHeartbeats 4000000
namespace Go.PV.Ytfkkmdelpddojaa
open Go Go.Proofs
theorem its_drop (L:List It) (k:Nat) (hk:k≤L.length):(encC itE L).drop (k * 3)=encC itE (L.drop k):=by
 rcases ZmI k L.length with h | h
 ·rw [WZ (k:=3) (fun _=>rfl) h,ZmY h,Yg]
 ·rw [Znb h,Znb (by rw [YO (k:=3) (fun _=>rfl)]; omega)]; rfl
theorem sl_its {L:List It} {k:Nat} {H:AH} {K:VE→AH→Prop} (h:k≤L.length) (hk:K (.ret (itsV (L.drop k))) H):Xx Try.prog 60 (itsV L) (some (iV k)) none none H K:=by
 simp only [Xx,Xu,Jc,idxV,idxOk,imp_self,Zmw];refine ⟨⟨by omega,trivial,trivial,trivial,h,Zmc _,Zmc _⟩,?_⟩;rw [its_drop L k h]
 have:L.length-k=(L.drop k).length:=by simp
 rw [this];exact hk
theorem has_fn {g:List Pd} {l:List Tk} {L is:List It} {i:It} {rc rk rs rd r2 r5:Nat} {q:Int} {H:AH} (hg:g.length≤1099511627776) (h2:H r2=some (.cells 93 [ptrV rc 0] 0)) (hc:H rc=some (.cells 127 [pdsV g,tksV l,.lit (.slice (some ⟨rs,0,none⟩) (l.length+1) (l.length+1)),mapV rd,mapV rk] 0)) (h5:H r5=some (.cells 60 [itsV L] 0)) (hL:L=i::is) (q0:0≤q) (q1:q<(g.length:Int)) :
 FnAt Try.prog (.func (.func 145) [] [ptrV r2 0,ptrV r5 0]) [iV q] (boolV (YH (pdAt g q) i.text i.prio)) H:=by
 refine FnAt.cap en_145 fun K hK=>?_
 refine ReadF.use (x:=boolV (YH (pdAt g q) i.text i.prio)) ?_ hK;obtain ⟨k,rfl⟩:∃ k:Nat,q=(k:Int):=⟨q.toNat,by omega⟩
 have hkl:k<g.length:=by omega
 rw [Xa hkl];have hdi:=WG hkl;have hsv:=Zch g[k] i.text i.prio;have hti:(encC itE L).drop ((0:Int).toNat * 3)=iV i.kind::sV i.text::iV i.prio::encC itE is:=by rw [hL]; rfl
 have hi0:(0:Int)<(L.length:Int):=by rw [hL,Zmi]; omega
 generalize g[k]=p at *
 clear hL;refine Zy fd145 (by simp) ?_;delta c145 Zq Zb Zr Zd Za Zk Zo Zc
 (repeat' (first | (simp only [↓Zt,Zu,vcNil,ptrV,boolV,Zl9,Zma,reduceCtorEq,Zx,Zmb,undef,Int.reduceLE,YU,XQ,XZ,YT,Xz,Je,Wi,Wb,Yd,Xb,Xu,ZcS, *]) | (refine ZC ?_) | (refine Yf mixed (fun _ _ _ _ e h=>⟨e.trans h.1,h.2⟩) _ (SubH.refl _) ?_) | (exact SubH.refl _) | (refine PureF.use (hsv) ?_)))
theorem Zi9 {g:List Pd} {l:List Tk} {dn:Sp→List Int} {rc rk:Nat} (hd:DOk g l dn) {r:Rs} (hr:rOk g l r) (hca:∀ f t,f≤l.length→t≤l.length→r.dot<(pdAt g r.prod).items.length→CanOK g l dn rc rk 104 ⟨r.prod,r.dot+1,f,t⟩):CanOK g l dn rc rk 131 r:=by
 intro Hb H K hc hk hK;have hnn:=hd.gok.n;have hgl:=hd.gok.len;have hil:=WK hd.gok hr.1;obtain ⟨r1,r2,r3,r4⟩:=hr;obtain ⟨⟨rs,rd,vd,h1,h2,h3⟩,h4⟩:=hc;have hc:FCh g l dn rc rk Hb:=⟨⟨rs,rd,vd,h1,h2,h3⟩,h4⟩
 have qc:=hk.1 _ _ h1;have hdi:=WG r1;have hri:(r.prod:Int)<(g.length:Int):=by omega
 clear h2 h3;unfold canF at hK;have hpq:=Xa r1;rw [Xa r1] at hK r2 hil hca;generalize g[r.prod]=q at *
 have hsl:=fun K' H'=>sl_its (K:=K') (H:=H') r2
 obtain ⟨L,hL⟩:∃ L,L=q.items.drop r.dot:=⟨_,rfl⟩
 have hLl:L.length=q.items.length-r.dot:=by rw [hL]; simp
 rw [← hL] at hK hsl;refine Zy fd131 (by simp) ?_;delta c131 Zj Zq Zb Zr Zd Zk Zi Zg Ze Zm Zn Zc Zo Za Zp;replace hK:=Hold.mk hK;replace hk:=Hold.mk hk;replace hc:=Hold.mk hc;replace hca:=Hold.mk hca;replace hL:=Hold.mk hL;replace hpq:=Hold.mk hpq;by_cases hlt:r.dot<q.items.length
 ·have hl0:¬ (L.length:Int)=0:=by omega
  replace hLl:=Hold.mk hLl;have hi0:(0:Int)<(L.length:Int):=by omega
  obtain ⟨i,is,hLi⟩:∃ i is,L=i::is:=by
   cases L with
   | nil=>exact absurd rfl hl0
   | cons i is=>exact ⟨i,is,rfl⟩
  have hti:(encC itE L).drop ((0:Int).toNat * 3)=iV i.kind::sV i.text::iV i.prio::encC itE is:=by rw [hLi]; rfl
  replace hLi:=Hold.mk hLi;by_cases hft:r.from_<r.to
  ·have hge:¬ (r.to:Int)≤(r.from_:Int):=by omega
   have hfl:r.from_<l.length:=by omega
   have hti2:=ZhK hfl;have hfi:(r.from_:Int)<(l.length:Int):=by omega
   have hwf:IntKind.wrap .i64 ((r.from_:Int)+1)=((r.from_+1:Nat):Int):=by rw [ZQ (by omega) (by omega)]; rfl
   have hwd:IntKind.wrap .i64 ((r.dot:Int)+1)=((r.dot+1:Nat):Int):=by rw [ZQ (by omega) (by omega)]; rfl
   have hta:tkAt l r.from_=l[r.from_]:=by unfold tkAt; rw [ZmW hfl]
   rw [← hta] at hti2;clear hta;have hca2:=fun f t h1 h2=>hca.out f t h1 h2 hlt
   have hre:∀ f t,canF g l dn ⟨r.prod,r.dot+1,f,t⟩=canL l (hasF g dn) is f t:=fun f t=>by
    unfold canF;dsimp only;rw [hpq.out,← List.tail_drop,← hL.out,hLi.out]; rfl
   have hca3:∀ Hb,FCh g l dn rc rk Hb→∀ f t,f≤l.length→t≤l.length→∀ (H'':AH) (K':VE→AH→Prop),Kt g l dn rk Hb H''→(∀ H',Kt g l dn rk Hb H'→K' (.ret (boolV (canL l (hasF g dn) is f t))) H')→ZO Try.prog 104 [ptrV rc 0,.agg [iV r.prod,iV (r.dot+1:Nat),iV f,iV t]] H'' K':=fun Hb hc f t h1 h2 H'' K' hkt hk' =>
    hca2 f t h1 h2 Hb H'' K' hc hkt fun H' hH'=>by rw [hre]; exact hk' H' hH'
   clear hre hca2;by_cases h3k:i.kind=3
   ·have hcf:canL l (hasF g dn) L r.from_ r.to=(Zmm (r.to-r.from_)).any fun j=>hasF g dn i r.from_ (r.from_+1+j) && canL l (hasF g dn) is (r.from_+1+j) r.to:=by
     rw [hLi.out]
     conv=>lhs; unfold canL
     rw [decide_eq_true hft,if_pos h3k]; rfl
    rw [hcf] at hK;clear hcf;obtain ⟨i1,i2,i3⟩:=i;dsimp only at h3k;subst h3k
    (repeat' (first | (refine hsl _ _ ?_) | (simp only [↓Yt,↓Ya,↓Ye,↓JE,↓ZZ,↓Yv,↓Ys,↓Zcv,↓XF,↓ZY,↓ZF,↓ZD,↓ZG,↓ZH,↓YX,↓ZJ,↓YY,↓ZI,↓ZP,↓Zv,↓ZE,↓ZS,↓YR,↓Yh,↓Yy,↓Xn,↓Wx,↓Zcx,↓ZA,↓ZN,↓ZX,↓Xk,↓YW,↓Yr,↓XJ,↓Yz,vcNil,ptrV,intV,Zmd,Zmg,Zmi,Zml,Zmq,Zmr,Zms,ite_true,ite_false,Zl9,Zma,Zmj,ne_eq,not_false_eq_true,true_and,Zme,decide_true,decide_false,ZmK,reduceCtorEq,ZmL,Zmw,Zx,↓Xc,↓Xg,↓Xm,AH.get,AH.set_set,setAt,Zmz,ZmJ,Zmp,eq_self,Zmh,Zmo,Zmb,and_self,Yq,Wt,Wc,WM,ZeX,YB,XR,Ws,Zmn,Zmy,↓Xo,YP,↓Wz,Zmc,WC,Yn,Zcg,YK,WE,XG,XA,Yo,WD,Yp,YG,Wf,Wg,↓Wy,↓XM,undef,Int.reduceLE,Zna,Zm1,WY,XH,Wl,JN,JM,YU,Xh,Xd,Yd,YT,Xz,Wi,JD,ZeV,WU,Zb5,Xp,Xb,Xu, *]) | (refine Yf mixed (fun _ _ _ _ e h=>⟨e.trans h.1,h.2⟩) _ (SubH.refl _) ?_) | (refine And.intro (SubH.new (by assumption)) ?_) | (refine Zw fun zr zh=>?_; have zg:=zh; (try simp only [AH.set_none] at zg); (try have zn_qc:=AH.ne_of qc zh); (try have zn_qc:=AH.ne_of qc zg.2); (try have zn_qc:=AH.ne_of qc zg.2.2); (try have zn_qc:=AH.ne_of qc zg.2.2.2); (try have zn_qc:=AH.ne_of qc zg.2.2.2.2))))
    rename_i z2 n2 n2' w2 z3 n3 n3' w3 z5 n5 n5' w5;obtain ⟨ka,kca⟩:=Kt.alloc hc.out hk.out n2 (.cells 93 [ptrV rc 0] 0);obtain ⟨kb,kcb⟩:=Kt.alloc kca ka n3 (.cells 185 [iV r.prod,iV r.dot,iV r.from_,iV r.to] 0);obtain ⟨kd,kcd⟩:=Kt.alloc kcb kb n5 (.cells 60 [itsV L] 0);obtain ⟨ke,kce⟩:=Kt.alloc kcd kd zh (.cells 64 [iV 3,sV i2,iV i3] 0);have hsb:=hk.out.1
    have hbx:SubH Hb ((((Hb.set z2 (.cells 93 [ptrV rc 0] 0)).set z3 (.cells 185 [iV r.prod,iV r.dot,iV r.from_,iV r.to] 0)).set z5 (.cells 60 [itsV L] 0)).set zr (.cells 64 [iV 3,sV i2,iV i3] 0)) :=
     (((SubH.new (hsb.none n2)).of_set (hsb.none n3'.2)).of_set (hsb.none n5'.2.2)).of_set (hsb.none zg.2.2.2)
    have x2:((((Hb.set z2 (.cells 93 [ptrV rc 0] 0)).set z3 (.cells 185 [iV r.prod,iV r.dot,iV r.from_,iV r.to] 0)).set z5 (.cells 60 [itsV L] 0)).set zr (.cells 64 [iV 3,sV i2,iV i3] 0)) z2=some (.cells 93 [ptrV rc 0] 0):=by
     rw [AH.set_ne _ _ zg.2.2.1.2,AH.set_ne _ _ n5'.2.1.2,AH.set_ne _ _ n3'.1.2,AH.set_same]
    have x3:((((Hb.set z2 (.cells 93 [ptrV rc 0] 0)).set z3 (.cells 185 [iV r.prod,iV r.dot,iV r.from_,iV r.to] 0)).set z5 (.cells 60 [itsV L] 0)).set zr (.cells 64 [iV 3,sV i2,iV i3] 0)) z3=some (.cells 185 [iV r.prod,iV r.dot,iV r.from_,iV r.to] 0):=by
     rw [AH.set_ne _ _ zg.2.1.2,AH.set_ne _ _ n5'.1.2,AH.set_same]
    have x5:((((Hb.set z2 (.cells 93 [ptrV rc 0] 0)).set z3 (.cells 185 [iV r.prod,iV r.dot,iV r.from_,iV r.to] 0)).set z5 (.cells 60 [itsV L] 0)).set zr (.cells 64 [iV 3,sV i2,iV i3] 0)) z5=some (.cells 60 [itsV L] 0):=by
     rw [AH.set_ne _ _ zg.1.2,AH.set_same]
    generalize ((((Hb.set z2 (.cells 93 [ptrV rc 0] 0)).set z3 (.cells 185 [iV r.prod,iV r.dot,iV r.from_,iV r.to] 0)).set z5 (.cells 60 [itsV L] 0)).set zr (.cells 64 [iV 3,sV i2,iV i3] 0))=Hx at *
    have xc:=hbx _ _ h1;clear ka kca kb kcb kd kcd n2 n2' w2 n3 n3' w3 n5 n5' w5 zh zg zn_qc hsb hsl hti hti2 hdi qc
    refine YJ (fun _ _ _ h=>h) (fun A H'=>A.d=[]∧A.t 2=ptrV z2 0∧A.t 3=ptrV z3 0∧A.t 5=ptrV z5 0∧∃ j:Nat,j≤r.to-r.from_∧A.t 7=iV (r.from_+1+j:Nat)∧Kt g l dn rk Hx H'∧∀ k,k<j→(hasF g dn ⟨3,i2,i3⟩ r.from_ (r.from_+1+k) && canL l (hasF g dn) is (r.from_+1+k) r.to)=false)
     (fun A _=>match A.t 7 with | .lit (.int _ k)=>((r.to:Int)+1-k).toNat | _=>0) ?_ ?_
    ·exact ⟨rfl,(by simp only [Zv,Zl9,if_true,if_false, *]<;>rfl),(by simp only [Zv,Zl9,if_true,if_false, *]<;>rfl),(by simp only [Zv,Zl9,if_true,if_false, *]<;>rfl),0,by omega,(by simp only [Zv,Zl9,if_true,if_false, *]<;>rfl),ke,fun k hk=>by omega⟩
    ·clear ke;rintro ⟨t,d⟩ H' ⟨hdd,h2,h3,h5,j,hj,h7,hkt,hno⟩;dsimp only at hdd h2 h3 h5 h7;subst hdd;have q2:=hkt.1 _ _ x2;have q3:=hkt.1 _ _ x3;have q5:=hkt.1 _ _ x5;have qc:=hkt.1 _ _ xc;delta b131_1 Za Zd Zb Zn Zr Zq Zo Zc Zp Zm;by_cases hjt:j<r.to-r.from_
     ·have hjl:((r.from_+1+j:Nat):Int)≤(r.to:Int):=by omega
      have hs:=hkt.1;obtain ⟨v,hv,hov⟩:=Zk1 kce (s:=(r.from_,r.from_+1+j)) ⟨by show r.from_≤_; omega,by show r.from_+1+j≤_; omega⟩;have hov:=hov _ hs;have hv:=(hv.mono hs).read;have hdl:=hd.len (r.from_,r.from_+1+j)
      have hfn:∀ k (h:k<(dn (r.from_,r.from_+1+j)).length),FnAt Try.prog (.func (.func 145) [] [ptrV z2 0,ptrV z5 0]) [iV (dn (r.from_,r.from_+1+j))[k]] (boolV (YH (pdAt g (dn (r.from_,r.from_+1+j))[k]) i2 i3)) H':=fun k hk=>by
       obtain ⟨a,b⟩:=hd.in_ _ _ (ZmE hk);exact has_fn (by omega) q2 qc q5 hLi.out a b
      have hci:=fun K'=>ZkT (p:=fun q=>YH (pdAt g q) i2 i3) (K:=K') hv (by omega) hfn
      have hhf:hasF g dn ⟨3,i2,i3⟩ r.from_ (r.from_+1+j)=(dn (r.from_,r.from_+1+j)).any fun q=>YH (pdAt g q) i2 i3:=rfl
      rw [← hhf] at hci;clear hhf hfn hv hdl;have hwj:IntKind.wrap .i64 (((r.from_+1+j:Nat):Int)+1)=((r.from_+1+(j+1):Nat):Int):=by rw [ZQ (by omega) (by omega)]; omega
      have hno2:(hasF g dn ⟨3,i2,i3⟩ r.from_ (r.from_+1+j) && canL l (hasF g dn) is (r.from_+1+j) r.to)=false→∀ k,k<j+1→(hasF g dn ⟨3,i2,i3⟩ r.from_ (r.from_+1+k) && canL l (hasF g dn) is (r.from_+1+k) r.to)=false:=fun h k hk=>by
       rcases ZmI k j with h2 | h2
       ·exact hno k h2
       ·obtain rfl:k=j:=by omega
        exact h
      have hca4:=fun K'=>hca3 Hx kce (r.from_+1+j) r.to (by omega) (by omega) H' K' hkt
      replace hkt:=Hold.mk hkt;replace hno:=Hold.mk hno;replace hno2:=Hold.mk hno2;clear hca3;cases hb:hasF g dn ⟨3,i2,i3⟩ r.from_ (r.from_+1+j) with
      | false =>
        rw [hb] at hci hno2;clear hb hca4
        (repeat' (first | (refine hov.use ?_) | (refine hci _ ?_) | (simp only [↓Yt,↓Ya,↓Ye,↓ZZ,↓Yb,↓Yv,↓Ys,↓ZY,↓ZF,↓Yk,↓YZ,↓ZD,↓Jg,↓ZG,↓ZH,↓ZJ,↓ZI,↓ZP,↓ZU,↓Zv,↓ZR,↓ZE,↓ZV,↓Ym,↓YE,↓ZS,↓Yy,↓Wp,↓Wm,↓ZA,↓ZK,↓ZL,↓YV,↓Yz,ptrV,boolV,Zmd,Zmg,Zmi,Zml,ite_true,ite_false,Zl9,Zma,Zmj,Zmu,ne_eq,not_false_eq_true,true_and,Zmv,Zme,decide_true,reduceCtorEq,Yc,Zx,ZT,fillV,setAt,eq_self,Zmh,Zmo,Zmb,and_self,ZmC,ZmD,Yq,XV,Zmn,Zmy,Zmc,Yn,YK,Yo,Yp,YG,undef,ZT,WY,XH,Wl,Yd,YT,ZaI,Zjw,Zjx,ZbF, *]) | (with_reducible refine And.intro ?_ ?_)))
        ·exact ⟨j+1,by omega,rfl,hkt.out,hno2.out rfl⟩
        ·omega
      | true =>
        rw [hb] at hci hno2;cases hb2:canL l (hasF g dn) is (r.from_+1+j) r.to with
        | false =>
          rw [hb2] at hca4 hno2;clear hb hb2
          (repeat' (first | (refine hov.use ?_) | (refine hci _ ?_) | (refine hca4 _ (fun H3 hk3=>?_)) | (simp only [↓Yt,↓Ya,↓Ye,↓ZZ,↓Yb,↓Yv,↓Ys,↓ZY,↓ZF,↓Yk,↓Yx,↓ZD,↓Jg,↓ZG,↓ZH,↓ZJ,↓ZI,↓ZP,↓ZU,↓Zv,↓ZR,↓ZE,↓ZV,↓Ym,↓YE,↓ZS,↓Yy,↓Wp,↓Wm,↓ZA,↓ZK,↓ZL,↓YV,↓Yz,ptrV,boolV,Zmd,Zmg,Zmi,Zml,ite_true,ite_false,Zl9,Zma,Zmj,Zmu,ne_eq,not_false_eq_true,true_and,Zme,decide_true,reduceCtorEq,ZT,fillV,setAt,eq_self,Zmh,Zmo,Zmb,and_self,ZmC,ZmD,Yq,XV,YB,Zmn,Zmy,Zmc,Yn,YK,Yo,Yp,YG,ZT,WY,XH,Wl,JN,JM,Yd,YT,ZaI,ZbA,Zjw,Zjx,ZbF, *]) | (with_reducible refine And.intro ?_ ?_)))
          ·exact ⟨j+1,by omega,rfl,hno2.out rfl⟩
          ·omega
        | true =>
          have hcf:((Zmm (r.to-r.from_)).any fun j=>hasF g dn ⟨3,i2,i3⟩ r.from_ (r.from_+1+j) && canL l (hasF g dn) is (r.from_+1+j) r.to)=true :=
           List.any_eq_true.2 ⟨j,List.mem_range.2 hjt,by rw [hb,hb2]; rfl⟩
          rw [hcf] at hK;rw [hb2] at hca4;clear hb hb2 hcf
          (repeat' (first | (refine hov.use ?_) | (refine hci _ ?_) | (refine hca4 _ (fun H3 hk3=>?_)) | (simp only [↓Yt,↓Ya,↓Ye,↓ZZ,↓Yb,↓Ys,↓Xe,↓ZY,↓ZF,↓Yk,↓Yx,↓ZD,↓Xs,↓ZcV,↓ZG,↓ZH,↓ZJ,↓ZI,↓ZP,↓ZU,↓Zv,↓ZR,↓ZE,↓ZV,↓Ym,↓YE,↓ZS,↓Yy,↓Wp,↓Wm,↓ZA,↓ZK,↓ZL,↓YV,↓Yz,ptrV,boolV,Zmd,Zmg,Zmi,Zml,ite_true,ite_false,Zl9,Zma,Zmj,Zmu,ne_eq,not_false_eq_true,true_and,Zme,decide_true,reduceCtorEq,ZT,fillV,setAt,eq_self,Zmh,Zmo,Zmb,and_self,ZmC,ZmD,Yq,XV,YB,Zmn,Zmy,Zmc,Yn,YK,Yo,Yp,YG,ZT,WY,XH,Wl,JN,JM,Yd,YT,ZaI,ZbA,Zjw,Zjx,ZbF, *]) | (refine ZC ?_)))
          exact hK.out _ (hk3.weak hbx)
     ·have hjl:¬ ((r.from_+1+j:Nat):Int)≤(r.to:Int):=by omega
      have hcf:((Zmm (r.to-r.from_)).any fun j=>hasF g dn ⟨3,i2,i3⟩ r.from_ (r.from_+1+j) && canL l (hasF g dn) is (r.from_+1+j) r.to)=false:=by
       rw [List.any_eq_false];intro k hk;rw [List.mem_range] at hk;rw [hno k (by omega)]; simp
      rw [hcf] at hK;clear hcf;replace hkt:=Hold.mk hkt;replace hno:=Hold.mk hno;delta c131_1 Zq
      (repeat' (first | (simp only [↓Zt,Zu,ptrV,Zl9,Zma,Zmj,reduceCtorEq,Zmb,WY,XH,Yd, *]) | (refine ZC ?_) | (refine YL rfl (fun _ _ _ h=>h) ?_)))
      exact hK.out _ (hkt.out.weak hbx)
   ·have hcf:canL l (hasF g dn) L r.from_ r.to=(takeF i (tkAt l r.from_) && canL l (hasF g dn) is (r.from_+1) r.to):=by
     rw [hLi.out]
     conv=>lhs; unfold canL
     rw [decide_eq_true hft,if_neg h3k]; rfl
    rw [hcf] at hK;clear hcf;have htk:=Zi1 i (tkAt l r.from_);generalize tkAt l r.from_=tk at *
    cases hb:takeF i tk with
    | true =>
      rw [hb] at htk hK;obtain ⟨i1,i2,i3⟩:=i;obtain ⟨k1,k2⟩:=tk;dsimp only at h3k;rw [Bool.true_and] at hK
      (repeat' (first | (refine hsl _ _ ?_) | (refine hca3 _ hc.out (r.from_+1) r.to (by omega) (by omega) _ _ ((((hk.out.skip (by assumption) _).skip (by assumption) _).skip (by assumption) _).skip (by assumption) _) (fun H3 hk3=>?_)) | (simp only [↓Yt,↓Ya,↓Ye,↓ZZ,↓Yb,↓Yv,↓Xe,↓XF,↓ZY,↓ZF,↓Yk,↓Yx,↓ZD,↓Xs,↓ZG,↓ZH,↓YX,↓ZJ,↓YY,↓ZI,↓ZP,↓ZU,↓Zv,↓ZR,↓ZE,↓ZV,↓Ym,↓YE,↓ZS,↓YR,↓Yh,↓Yy,↓Xn,↓Wx,↓Wp,↓Zcx,↓ZA,↓ZN,↓ZX,↓ZK,↓ZL,↓Xk,↓YW,↓Yr,↓XJ,↓Yz,vcNil,ptrV,intV,boolV,Zmd,Zmg,Zmi,Zml,Zmq,Zmr,Zms,ite_true,ite_false,Zl9,Zma,Zmj,Zmu,ne_eq,not_false_eq_true,true_and,Zme,decide_false,ZmG,reduceCtorEq,ZmL,Zmw,Zx,↓Xc,↓Xg,↓WF,↓Xm,AH.get,AH.set_set,ZT,fillV,setAt,Zmz,ZmJ,Zmp,eq_self,Zmh,Zmo,Zmb,and_self,ZmC,ZmD,Yq,JG,Wt,XV,Wc,WM,ZeX,YB,XR,Ws,Zmn,Zmy,↓Xo,YP,↓Wz,Zmc,WC,Yn,Zcg,YK,WE,XG,XA,Yo,WD,Yp,YG,Wf,Wg,↓Wy,↓XM,↓Zbq,undef,Int.reduceLE,ZT,Zna,Zm1,WY,XH,Wl,JN,JM,YU,Xh,Xd,ZgV,Yd,YT,Xz,Wi,JD,ldT_32,Zgq,ZeV,WU,ZaI,ZbA,Zb5,Xp,Xb,Xu,Zam,ZbF,Zjy, *]) | (refine ZC ?_) | (refine Yf mixed (fun _ _ _ _ e h=>⟨e.trans h.1,h.2⟩) _ (SubH.refl _) ?_) | (refine And.intro (SubH.new (by assumption)) ?_) | (refine Zw fun zr zh=>?_; have zg:=zh; (try simp only [AH.set_none] at zg); (try have zn_qc:=AH.ne_of qc zh); (try have zn_qc:=AH.ne_of qc zg.2); (try have zn_qc:=AH.ne_of qc zg.2.2); (try have zn_qc:=AH.ne_of qc zg.2.2.2); (try have zn_qc:=AH.ne_of qc zg.2.2.2.2)) | (exact SubH.refl _) | (refine PureF.use (htk) ?_) | (with_reducible refine And.intro ?_ ?_)))
      exact hK.out _ hk3
    | false =>
      rw [hb] at htk hK;obtain ⟨i1,i2,i3⟩:=i;obtain ⟨k1,k2⟩:=tk;dsimp only at h3k;rw [Zm6] at hK
      (repeat' (first | (refine hsl _ _ ?_) | (simp only [↓Yt,↓Ya,↓Ye,↓ZZ,↓Yb,↓Yv,↓Xe,↓XF,↓ZY,↓ZF,↓Yk,↓YZ,↓ZD,↓Xs,↓ZG,↓ZH,↓YX,↓ZJ,↓YY,↓ZI,↓ZP,↓ZU,↓Zv,↓ZR,↓ZE,↓ZV,↓Ym,↓YE,↓ZS,↓YR,↓Yh,↓Yy,↓Xn,↓Wx,↓Zcx,↓ZA,↓ZN,↓ZX,↓ZK,↓ZL,↓Xk,↓YW,↓Yr,↓XJ,vcNil,ptrV,intV,boolV,Zmd,Zmg,Zmi,Zml,Zmq,Zmr,Zms,ite_true,ite_false,Zl9,Zma,Zmj,ne_eq,not_false_eq_true,true_and,Zmv,Zme,decide_false,ZmG,reduceCtorEq,ZmL,Zmw,Yc,Zx,↓Xc,↓Xg,↓WF,↓Xm,AH.get,AH.set_set,setAt,Zmz,ZmJ,Zmp,eq_self,Zmh,Zmo,Zmb,and_self,Yq,JG,Wt,Wc,WM,ZeX,YB,XR,Ws,Zmn,Zmy,↓Xo,YP,↓Wz,Zmc,WC,Yn,Zcg,YK,WE,XG,XA,Yo,WD,Yp,YG,Wf,Wg,↓Wy,↓XM,↓Zbr,undef,Int.reduceLE,Zna,Zm1,WY,XH,Wl,JN,JM,YU,Xh,Xd,ZgV,Yd,YT,Xz,Wi,JD,ldT_32,Zgq,ZeV,WU,Zb5,Xp,Xb,Xu,Zam,ZbF,Zjy, *]) | (refine ZC ?_) | (refine Yf mixed (fun _ _ _ _ e h=>⟨e.trans h.1,h.2⟩) _ (SubH.refl _) ?_) | (refine And.intro (SubH.new (by assumption)) ?_) | (refine Zw fun zr zh=>?_; have zg:=zh; (try simp only [AH.set_none] at zg); (try have zn_qc:=AH.ne_of qc zh); (try have zn_qc:=AH.ne_of qc zg.2); (try have zn_qc:=AH.ne_of qc zg.2.2); (try have zn_qc:=AH.ne_of qc zg.2.2.2); (try have zn_qc:=AH.ne_of qc zg.2.2.2.2)) | (exact SubH.refl _) | (refine PureF.use (htk) ?_) | (with_reducible refine And.intro ?_ ?_)))
      exact hK.out _ ((((hk.out.skip (by assumption) _).skip (by assumption) _).skip (by assumption) _).skip (by assumption) _)
  ·have hge:(r.to:Int)≤(r.from_:Int):=by omega
   have hcf:canL l (hasF g dn) L r.from_ r.to=false:=by
    rw [hLi.out];unfold canL;rw [decide_eq_false hft]; rfl
   rw [hcf] at hK;clear hcf
   (repeat' (first | (refine hsl _ _ ?_) | (simp only [↓Yt,↓Ya,↓Ye,↓ZZ,↓Yb,↓Yv,↓Xe,↓XF,↓ZY,↓ZF,↓ZD,↓Xs,↓ZG,↓ZH,↓YX,↓ZJ,↓YY,↓ZI,↓ZP,↓Zv,↓ZE,↓ZS,↓YR,↓Yh,↓Yy,↓Xn,↓Wx,↓Zcx,↓ZA,↓ZN,↓ZX,↓Xk,↓YW,↓Yr,vcNil,ptrV,intV,Zmd,Zmg,Zmi,Zml,Zmq,Zmr,Zms,ite_true,ite_false,Zl9,Zma,Zmj,ne_eq,not_false_eq_true,true_and,Zme,decide_true,decide_false,reduceCtorEq,ZmL,Zmw,Zx,↓Xc,↓Xg,↓Xm,AH.get,AH.set_set,setAt,Zmz,ZmJ,Zmp,eq_self,Zmh,Zmo,Zmb,and_self,Yq,ZeX,YB,XR,Ws,Zmn,↓Xo,YP,↓Wz,Zmc,WC,Yn,Zcg,YK,WE,XG,XA,Yo,WD,Yp,YG,Wf,Wg,↓Wy,↓XM,undef,Zna,Zm1,WY,XH,Wl,JN,JM,YU,Xh,Yd,YT,Xz,Wi,ZeV,Zb5,Xb,Xu, *]) | (refine ZC ?_) | (refine Yf mixed (fun _ _ _ _ e h=>⟨e.trans h.1,h.2⟩) _ (SubH.refl _) ?_) | (refine And.intro (SubH.new (by assumption)) ?_) | (refine Zw fun zr zh=>?_; have zg:=zh; (try simp only [AH.set_none] at zg); (try have zn_qc:=AH.ne_of qc zh); (try have zn_qc:=AH.ne_of qc zg.2); (try have zn_qc:=AH.ne_of qc zg.2.2); (try have zn_qc:=AH.ne_of qc zg.2.2.2); (try have zn_qc:=AH.ne_of qc zg.2.2.2.2))))
   exact hK.out _ (((hk.out.skip (by assumption) _).skip (by assumption) _).skip (by assumption) _)
 ·have hl0:(L.length:Int)=0:=by omega
  have hcf:canL l (hasF g dn) L r.from_ r.to=decide ((r.from_:Int)=(r.to:Int)):=by
   rw [List.length_eq_zero_iff.1 (show L.length=0 by omega)];unfold canL;exact decide_eq_decide.2 ⟨fun h=>by rw [h],fun h=>by omega⟩
  rw [hcf] at hK;clear hcf;replace hLl:=Hold.mk hLl
  (repeat' (first | (refine hsl _ _ ?_) | (simp only [↓Ya,↓Ye,↓ZZ,↓Yb,↓Xe,↓XF,↓ZY,↓ZF,↓ZD,↓Xs,↓ZG,↓ZH,↓YX,↓ZJ,↓YY,↓ZI,↓ZP,↓Zv,↓ZE,↓ZS,↓YR,↓Yh,↓Yy,↓Xn,↓Wx,↓Zcx,↓ZA,↓ZN,↓ZX,↓Xk,↓Yr,vcNil,ptrV,intV,Zmd,Zmg,Zmi,Zml,Zmq,Zmr,Zms,ite_true,ite_false,Zl9,Zma,Zmj,ne_eq,not_false_eq_true,true_and,Zme,decide_true,reduceCtorEq,ZmL,Zmw,Zx,↓Xc,↓Xg,↓Xm,AH.get,AH.set_set,setAt,Zmz,ZmJ,Zmp,eq_self,Zmh,Zmo,Zmb,and_self,Yq,ZeX,YB,XR,Ws,Zmn,↓Xo,YP,↓Wz,Zmc,WC,Yn,Zcg,YK,WE,XG,XA,Yo,WD,Yp,YG,Wf,Wg,↓Wy,↓XM,undef,Zna,Zm1,WY,XH,Wl,JN,JM,YU,Xh,Yd,YT,Xz,Wi,ZeV,Zb5,Xb,Xu, *]) | (refine ZC ?_) | (refine Yf mixed (fun _ _ _ _ e h=>⟨e.trans h.1,h.2⟩) _ (SubH.refl _) ?_) | (refine And.intro (SubH.new (by assumption)) ?_) | (refine Zw fun zr zh=>?_; have zg:=zh; (try simp only [AH.set_none] at zg); (try have zn_qc:=AH.ne_of qc zh); (try have zn_qc:=AH.ne_of qc zg.2); (try have zn_qc:=AH.ne_of qc zg.2.2); (try have zn_qc:=AH.ne_of qc zg.2.2.2); (try have zn_qc:=AH.ne_of qc zg.2.2.2.2))))
  exact hK.out _ (((hk.out.skip (by assumption) _).skip (by assumption) _).skip (by assumption) _)
theorem Zk2 {g:List Pd} {l:List Tk} {dn:Sp→List Int} {rc rk:Nat} (hd:DOk g l dn):∀ (m:Nat) (r:Rs),rOk g l r→(pdAt g r.prod).items.length-r.dot≤m→CanOK g l dn rc rk 104 r
 | 0,r,hr,hm=>can_ok hd hr (Zi9 hd hr fun f t h1 h2 h3=>by omega)
 | m+1,r,hr,hm=>can_ok hd hr (Zi9 hd hr fun f t h1 h2 h3=>Zk2 hd m _ ⟨hr.1,h3,h1,h2⟩ (by show (pdAt g r.prod).items.length-(r.dot+1)≤m; omega))
theorem can_full {g:List Pd} {l:List Tk} {dn:Sp→List Int} {rc rk:Nat} (hd:DOk g l dn) {r:Rs} (hr:rOk g l r):CanOK g l dn rc rk 104 r:=Zk2 hd _ r hr (Zmc _)
end Go.PV.Ytfkkmdelpddojaa
end
section
set_option maxRecDepth 20000
set_option maxHeartbeats 4000000
namespace Go.PV.Ytfkkmdelpddojaa
open Go Go.Proofs
theorem RSat.frozen {H0 H:AH} {g:List Pd} {l:List Tk} {p:Par} {by_:ByteArray→List Int} {C:Ch} (h:RSat H0 H g l l.length p by_ C):∃ Hb,SubH H0 Hb∧FCh g l C.done p.rc p.rk Hb∧Kt g l C.done p.rk Hb H:=by
 obtain ⟨vs,B,h⟩:=h
 have hat:∀ k a b,¬ k=.km→B k=some (a,b)→(H.del p.rk) a=some b:=fun k a b hk hb=>by
  rw [AH.del_ne _ (h.ob.apart hb h.km hk)]; exact h.ob.at_ _ _ _ hb
 have hob:Objs AH.nil (H.del p.rk) (B.put .km none):=by
  have hne:∀ k a b,(B.put .km none) k=some (a,b)→¬ k=.km∧B k=some (a,b):=fun k a b h'=>by
   by_cases e:k=.km
   ·subst e; rw [OB.put_same] at h'; cases h'
   ·rw [OB.put_ne _ _ e] at h'; exact ⟨e,h'⟩
  exact ⟨fun k k' a b b' h1 h2=>h.ob.inj _ _ _ _ _ (hne _ _ _ h1).2 (hne _ _ _ h2).2,fun _ _ _ _=>rfl,fun _ _ h=>(by cases h),fun k a b hk=>hat k a b (hne _ _ _ hk).1 (hne _ _ _ hk).2⟩
 refine ⟨H.del p.rk,fun r c hr=>?_,⟨⟨p.rs,p.rd,p.vd,hat _ _ _ (by simp) h.chart,hat _ _ _ (by simp) h.dm,fun s hs=>?_⟩,AH.del_same _ _⟩,fun r c hr=>?_,fun _=>none,h.ob.at_ _ _ _ h.km,fun r v hv=>by cases hv⟩
 ·have:=h.ob.new _ _ _ h.km
  rw [AH.del_ne _ (fun e=>by subst e; rw [hr] at this; cases this)]; exact h.ob.sub _ _ hr
 ·rcases (h.ds s).of (B':=B.put .km none) (OB.put_ne _ _ (by simp)) with ⟨e,_⟩ | ⟨a,c,sp,e1,e2,_⟩
  ·exact absurd e hs
  ·exact .inr ⟨a,c,sp,e1,hob.at_ _ _ _ e2⟩
 ·rw [AH.del_get] at hr;split at hr
  ·cases hr
  ·exact hr
end Go.PV.Ytfkkmdelpddojaa
end
section
open List renaming length_append→ZmB,drop_zero→Zm4,take_of_length_le→ZmQ,map_cons→Zmd,map_nil→Zmg,length_cons→Zmi,length_nil→Zml,getD_cons_zero→Zmq,getD_cons_succ→Zmr,getD_nil→Zms,replicate_zero→ZmZ,flatten_nil→ZmX
open Nat renaming mul_one→ZmM,zero_add→Zmh,reduceEqDiff→Zl9,reduceLT→Zma,reduceLeDiff→Zmu,succ_ne_self→Zme
set_option maxRecDepth 20000
set_option maxHeartbeats 4000000
namespace Go.PV.Ytfkkmdelpddojaa
open Go Go.Proofs
def ClR (H0 H:AH) (v:VV) (l:List Int):Prop:=SubH H0 H∧((l=[]∧(v=.lit (.slice none 0 0)∨v=.slice true 0 []))∨∃ r c sp,v=.lit (.slice (some ⟨r,0,none⟩) l.length c)∧l.length≤c∧H0 r=none∧H r=some (.cells 3 (encC intE l) sp))
theorem ClR.read {H0 H:AH} {v:VV} {l:List Int} (h:ClR H0 H v l):SlR H v l.length (encC intE l):=by
 rcases h.2 with ⟨rfl,rfl | rfl⟩ | ⟨r,c,sp,rfl,_,h1,h2⟩
 ·exact .inr (.inl ⟨rfl,rfl,rfl⟩)
 ·exact .inl ⟨_,rfl⟩
 ·exact .inr (.inr ⟨r,0,c,_,_,sp,rfl,h2,rfl⟩)
theorem eq_lit {t e:TypeId} {ox:Operand} {c:Value} {a:Option Addr} {n k:Nat} {H:AH} {K:VE→AH→Prop} (hu:Program.underlying Try.prog t=some (.slice e)) (h:K (.ret (boolV a.isNone)) H):vcBin Try.prog .eql t ox (.const c) (.lit (.slice a n k)) (.lit (.slice none 0 0)) H K:=by
 unfold vcBin;simp only [Xl];exact ⟨⟨e,hu⟩,.inr (.inl rfl),fun b hb=>by rw [show b=a.isNone from hb]; exact h⟩
theorem ZdI (l:List Int):(encC intE l).length=l.length:=by rw [YO (k:=1) (fun _=>rfl)]; omega
theorem clone_ok {l:List Int} {junk:List VV} {r c sp:Nat} {H:AH} {K:VE→AH→Prop} (hl:l.length≤1000) (hv:H r=some (.cells 3 (encC intE l++junk) sp)) (hK:∀ v' H',ClR H H' v' l→K (.ret v') H'):ZO Try.prog 133 [.lit (.slice (some ⟨r,0,none⟩) l.length c)] H K:=by
 have hsr:srcV H 1 (.lit (.slice (some ⟨r,0,none⟩) l.length c))=some (l.length,encC intE l):=by
  have h1:=ZdI l;simp only [srcV,hv,ZmB,Zm4,ZmM];rw [if_pos (by omega),List.take_append_of_le_length (by omega),ZmQ (by omega)]
 have hone:(encC intE l).all VV.one=true:=by
  clear hsr hv hK hl
  induction l with
  | nil=>rfl
  | cons x l ih=>rw [Yg,List.all_append,ih]; rfl
 have happ:=fun K'=>WP (P:=Try.prog) (K:=K') (H:=H) (t:=108) (n:=0) (cs:=[]) YA Wv rfl (by omega) rfl hsr hone (by omega) (by omega)
 have h0:l.length=0→K (.ret (.slice true 0 [])) H:=fun h=>hK _ _ ⟨SubH.refl _,.inl ⟨List.length_eq_zero_iff.1 h,.inr rfl⟩⟩
 have h1:l.length ≠ 0→∀ v' H',OwnX H H' 3 1 v' (0+l.length) ([]++encC intE l)→K (.ret v') H':=fun hne v' H' ho=>by
  rcases ho with ⟨_,h,_⟩ | ⟨g,c,sp,rfl,hg,rfl,_,_,hc3,_⟩
  ·omega
  ·rw [Zmh] at hc3 ⊢;exact hK _ _ ⟨SubH.new hg,.inr ⟨g,c,sp,rfl,hc3,hg,AH.set_same _ _ _⟩⟩
 replace hK:=Hold.mk hK;replace h0:=Hold.mk h0;replace h1:=Hold.mk h1;clear hsr hone;refine Zy fd133 (by simp) ?_;delta c133 Zq Za Zr Zl Zc
 (repeat' (first | (refine eq_lit (e:=3) (by kernel_rfl) ?_) | (refine happ _ (fun hz=>?_) (fun hz v' H' ho=>?_)) | (simp only [↓Yt,↓Ya,↓Ye,↓ZZ,↓Yv,↓Xe,↓ZY,↓ZF,↓ZD,↓ZG,↓ZH,↓ZJ,↓ZI,↓ZP,↓Zv,↓ZR,↓ZE,↓Yy,↓YC,↓ZX,↓WX,boolV,Zmd,Zmg,Zmi,Zml,Zmq,Zmr,Zms,ite_true,ite_false,Zl9,Zma,Zmu,true_and,Zme,reduceCtorEq,ZmM,Zx,fillV,eq_self,Zmh,and_self,undef,ZB,ZmZ,ZmX,Option.isNone_some,ZB,YA,Wv, *]) | (refine ZC ?_)))
 ·exact h0.out hz
 ·exact h1.out hz _ _ ho
theorem ZlE {l:List Int} {H:AH} {K:VE→AH→Prop} (hK:K (.ret (.lit (.slice none 0 0))) H):ZO Try.prog 133 [.lit (.slice none 0 0)] H K:=by
 refine Zy fd133 (by simp) ?_;delta c133 Zq Za Zr Zl Zc
 (repeat' (first | (refine eq_lit (e:=3) (by kernel_rfl) ?_) | (simp only [↓Ya,↓Ye,↓ZZ,↓Yb,↓Xe,↓ZY,↓ZF,↓ZD,↓Xs,↓ZG,↓ZH,↓ZJ,↓ZI,↓ZP,↓Zv,↓ZR,↓ZE,↓Yy,boolV,Zmq,Zmr,Zms,ite_true,ite_false,Zl9,Zma,true_and,Zme,reduceCtorEq,Zx,eq_self,undef,Option.isNone_none, *]) | (refine ZC ?_)))
end Go.PV.Ytfkkmdelpddojaa
end
section
open Int renaming toNat_natCast→Zmw,reduceNeg→Zm3
open Nat renaming reduceEqDiff→Zl9,reduceLT→Zma,mul_one→ZmM,lt_or_ge→ZmI
set_option maxRecDepth 20000
set_option maxHeartbeats 4000000
namespace Go.PV.Ytfkkmdelpddojaa
open Go Go.Proofs
theorem indInt {l:List Int} {v:VV} {x:Int} {H:AH} {K:VE→AH→Prop} (hv:SlR H v l.length (encC intE l)) (hl:l.length≤1099511627776) (hK:K (.ret (iV (idxF (fun y=>decide (x=y)) l))) H):ZO Try.prog 102 [v,iV x] H K:=by
 refine Zy fd102 (by simp) ?_;delta c102 Zf Za Ze Zq
 (repeat' (first | (simp only [↓Zt,Zu,intV,Zl9,Zma,reduceCtorEq,Zx,undef, *]) | (refine hv.len (by simp [YA]) ?_)))
 refine YJ (fun _ _ _ h=>h) (fun A H'=>H'=H∧A.d=[]∧A.t 0=v∧A.t 1=iV x∧A.t 7=iV l.length∧∃ i:Nat,i≤l.length∧A.t 8=iV i∧∀ j (h:j<l.length),j<i→decide (x=l[j])=false)
  (fun A _=>match A.t 8 with | .lit (.int _ i)=>((l.length:Int)-i).toNat | _=>0) ?_ ?_
 ·exact ⟨rfl,rfl,rfl,rfl,rfl,0,by simp,rfl,by simp⟩
 ·rintro ⟨t,d⟩ H' ⟨rfl,rfl,h0,h1,h7,i,hi,h8,hj⟩;dsimp only at h0 h1 h7 h8
  have hld:∀ (h:i<l.length),ldV 1 false ((encC intE l).drop ((i:Int).toNat * 1))=some (iV l[i]):=fun h=>by
   rw [Zmw,ZmM,JO h]; rfl
  delta b102_1 Zn Zr Za Zc Zk Zb Zm
  (repeat' (first | (simp only [↓Zt,Zu,Zl9,Zma,reduceCtorEq,Int.ofNat_lt, *]) | (refine Jw ?_ ?_<;>intro) | (refine ZC ?_) | (refine YL rfl (fun _ _ _ h=>h) ?_) | (refine hv.index YA (by omega) (by omega) (fun a ha=>?_)) | (refine ha.load Yd (x:=iV (l[i]'(by omega))) (hld (by omega)) ?_) | (with_reducible refine And.intro ?_ ?_)))
  ·have hb:i<l.length:=by assumption
   rw [← JH (p:=fun y=>decide (x=y)) hb (by simpa using (by assumption:x=l[i])) (fun j h=>hj j (by omega) h)];exact hK
  ·have hb:i<l.length:=by assumption
   rw [ZQ (by omega) (by omega)];refine ⟨i+1,by omega,by simp,fun j h h'=>?_⟩;rcases ZmI j i with h2 | h2
   ·exact hj j h h2
   ·obtain rfl:j=i:=by omega
    simpa using (by assumption:¬ x=l[j])
  ·rw [ZQ (by omega) (by omega)];omega
  ·delta c102_1 Zq
   (repeat' (first | (simp only [↓Zt,Zu,Zl9,Zma,Zm3, *]) | (refine ZC ?_)))
   rw [show (-1:Int)=idxF (fun y=>decide (x=y)) l from (Zaq fun j h=>hj j h (by omega)).symm];exact hK
theorem inInt {l:List Int} {v:VV} {x:Int} {H:AH} {K:VE→AH→Prop} (hv:SlR H v l.length (encC intE l)) (hl:l.length≤1099511627776) (hK:K (.ret (boolV (decide (x∈l)))) H):ZO Try.prog 83 [v,iV x] H K:=by
 refine Zy fd83 (by simp) ?_;delta c83 Zq Za Zo Zr Zm Zc
 have e:decide (0≤idxF (fun y=>decide (x=y)) l)=decide (x∈l):=by
  rw [Zb6];by_cases h:x∈l
  ·rw [decide_eq_true h]; exact List.any_eq_true.2 ⟨x,h,by simp⟩
  ·rw [decide_eq_false h,List.any_eq_false];intro y hy;simp only [decide_eq_true_eq];rintro rfl;exact h hy
 rw [← e] at hK;replace hK:=Hold.mk hK;clear e
 (repeat' (first | (simp only [↓Zt,Zu,Zl9,Zma,reduceCtorEq,Zx,undef,en_102, *]) | (refine ZC ?_) | (refine indInt hv hl ?_)))
 exact hK.out
end Go.PV.Ytfkkmdelpddojaa
end
section
open Int renaming reduceNeg→Zm3
open List renaming getElem_mem→ZmE,map_cons→Zmd,map_nil→Zmg,getD_cons_zero→Zmq,getD_cons_succ→Zmr,getD_nil→Zms,set_cons_succ→Zmy,getElem?_eq_getElem→ZmW,length_take→ZmV
open Nat renaming reduceEqDiff→Zl9,reduceLT→Zma,succ_ne_self→Zme,add_zero→Zmo,le_refl→Zmc
set_option maxRecDepth 20000
set_option maxHeartbeats 4000000
namespace Go.PV.Ytfkkmdelpddojaa
open Go Go.Proofs
theorem del_none {l:List Int} {v f:VV} {p:Int→Bool} {H:AH} {K:VE→AH→Prop} (hv:SlR H v l.length (encC intE l)) (hl:l.length≤1099511627776) (hf:∀ i (h:i<l.length),FnAt Try.prog f [iV l[i]] (boolV (p l[i])) H) (hn:∀ x∈l,p x=false) (hK:K (.ret v) H):ZO Try.prog 132 [v,f] H K:=by
 have hi:idxF p l = -1:=Zaq fun j h=>hn _ (ZmE h)
 have hx:=fun K'=>ZhT (K:=K') hv hl hf
 rw [hi] at hx;clear hi hf;refine Zy fd132 (by simp) ?_;delta c132 Zq Za Zo Zr Zc Zm
 (repeat' (first | (refine hx _ ?_) | (simp only [↓Ya,↓Ye,↓ZZ,↓Yb,↓Xe,↓ZY,↓ZF,↓ZD,↓Xs,↓ZG,↓ZH,↓ZJ,↓ZI,↓ZP,↓ZU,↓Zv,↓ZR,↓ZE,↓Yy,↓ZK,↓ZL,↓Yr,Zmd,Zmg,Zmq,Zmr,Zms,ite_true,ite_false,Zl9,Zma,true_and,Zme,decide_true,reduceCtorEq,Zx,eq_self,undef,Zm3,en_91, *]) | (refine ZC ?_)))
theorem ints_set {M:List Int} {k:Nat} (x:Int) (h:k<M.length):(encC intE M).set k (iV x)=encC intE (M.set k x):=by
 induction M generalizing k with
 | nil=>simp at h
 | cons y M ih =>
   cases k with
   | zero=>rfl
   | succ k =>
     rw [Yg,Zmy,Yg,← ih (by simpa using h)];rfl
structure DlM (l:List Int) (p:Int→Bool) (k j:Nat) (M:List Int):Prop where
 len:M.length=l.length
 kj:k≤j
 jl:j≤l.length
 kept:M.take k=(l.take j).filter fun x=>!p x
 rest:M.drop j=l.drop j
theorem DlM.get {l:List Int} {p:Int→Bool} {k j:Nat} {M:List Int} (h:DlM l p k j M) (hj:j<l.length):M[j]?=some l[j]:=by
 have h1:(M.drop j)[0]?=(l.drop j)[0]?:=by rw [h.rest]
 rw [List.getElem?_drop,List.getElem?_drop,Zmo,ZmW hj] at h1;exact h1
theorem DlM.keep {l:List Int} {p:Int→Bool} {k j:Nat} {M:List Int} (h:DlM l p k j M) (hj:j<l.length) (hp:p l[j]=false):DlM l p (k+1) (j+1) (M.set k l[j]):=by
 have hk:k<M.length:=by rw [h.len]; have:=h.kj; omega
 refine ⟨by rw [List.length_set,h.len],by have:=h.kj; omega,hj,?_,?_⟩
 ·rw [XK hj,List.filter_append,← h.kept,List.take_add_one,List.take_set_of_le (Zmc _),List.getElem?_set_self hk];simp [hp]
 ·rw [List.drop_set_of_lt (by have:=h.kj; omega),← List.tail_drop,h.rest,List.tail_drop]
theorem DlM.drop {l:List Int} {p:Int→Bool} {k j:Nat} {M:List Int} (h:DlM l p k j M) (hj:j<l.length) (hp:p l[j]=true):DlM l p k (j+1) M:=by
 refine ⟨h.len,by have:=h.kj; omega,hj,?_,by rw [← List.tail_drop,h.rest,List.tail_drop]⟩;rw [XK hj,List.filter_append,← h.kept];simp [hp]
theorem DlM.first {l:List Int} {p:Int→Bool} {i:Nat} (hi:i<l.length) (hp:p l[i]=true) (hb:∀ j (h:j<l.length),j<i→p l[j]=false):DlM l p i (i+1) l:=by
 refine ⟨rfl,by omega,hi,?_,rfl⟩
 have h:(l.take i).filter (fun x=>!p x)=l.take i:=List.filter_eq_self.2 fun x hx=>by
  obtain ⟨j,hj,rfl⟩:=List.getElem_of_mem hx;rw [ZmV] at hj;rw [List.getElem_take,hb j (by omega) (by omega)]; rfl
 rw [XK hi,List.filter_append,h];simp [hp]
end Go.PV.Ytfkkmdelpddojaa
end
section
open Int renaming reduceNeg→Zm3
open List renaming map_cons→Zmd,map_nil→Zmg,getD_cons_zero→Zmq,getD_cons_succ→Zmr,getD_nil→Zms,getElem?_eq_getElem→ZmW,take_of_length_le→ZmQ,append_assoc→Zm7,length_take→ZmV,replicate→ZmH
open Nat renaming reduceEqDiff→Zl9,reduceLT→Zma,succ_ne_self→Zme,le_refl→Zmc
open Option renaming map_none→Zna,map_some→Zm1
set_option maxRecDepth 20000
set_option maxHeartbeats 4000000
namespace Go.PV.Ytfkkmdelpddojaa
open Go Go.Proofs
theorem ZlF (l:List Int) (k:Nat):encC intE (l.take k)=(encC intE l).take k:=by
 induction l generalizing k with
 | nil=>simp [encC]
 | cons x l ih =>
   cases k with
   | zero=>rfl
   | succ k=>rw [List.take_succ_cons,Yg,Yg,ih]; rfl
theorem del_some {l:List Int} {f:VV} {p:Int→Bool} {r c sp i0:Nat} {Hb H:AH} {K:VE→AH→Prop} (hl:l.length≤1000) (hr:H r=some (.cells 3 (encC intE l) sp)) (hb:Hb r=none) (hs:SubH Hb H) (hlc:l.length≤c) (hf:∀ H',SubH Hb H'→∀ i (h:i<l.length),FnAt Try.prog f [iV l[i]] (boolV (p l[i])) H')
 (hi:i0<l.length) (hp:p l[i0]=true) (hbf:∀ j (h:j<l.length),j<i0→p l[j]=false)
 (hK:∀ H' junk,SubH Hb H'→H' r=some (.cells 3 (encC intE (l.filter fun x=>!p x)++junk) sp)→K (.ret (.lit (.slice (some ⟨r,0,none⟩) (l.filter fun x=>!p x).length c))) H'):ZO Try.prog 132 [.lit (.slice (some ⟨r,0,none⟩) l.length c),f] H K:=by
 have hv:SlR H (.lit (.slice (some ⟨r,0,none⟩) l.length c)) l.length (encC intE l):=.inr (.inr ⟨r,0,c,_,_,sp,rfl,hr,rfl⟩);have hix:idxF p l=i0:=JH hi hp fun j h=>hbf j (by omega) h
 have hx:=fun K'=>ZhT (K:=K') hv (by omega) (hf H hs)
 rw [hix] at hx;have hM:=DlM.first hi hp hbf;have hne:¬ (i0:Int) = -1:=by omega
 have hwi:IntKind.wrap .i64 ((i0:Int)+1)=((i0+1:Nat):Int):=by rw [ZQ (by omega) (by omega)]; rfl
 clear hix hv;replace hK:=Hold.mk hK;replace hM:=Hold.mk hM;refine Zy fd132 (by simp) ?_;delta c132 Zq Za Zo Zr Zc Zm
 (repeat' (first | (refine hx _ ?_) | (simp only [↓Yt,↓Ya,↓Ye,↓JE,↓ZZ,↓Yv,↓Ys,↓Zcv,↓ZY,↓ZF,↓ZD,↓ZG,↓ZH,↓ZJ,↓ZI,↓ZP,↓ZU,↓Zv,↓ZR,↓ZE,↓Yy,↓ZK,↓ZL,↓Yr,↓Yz,Zmd,Zmg,Zmq,Zmr,Zms,ite_true,ite_false,Zl9,Zma,true_and,Zme,decide_false,reduceCtorEq,Zx,eq_self,undef,Zm3,en_91, *])))
 replace hM:=hM.out
 refine YJ (fun _ _ _ h=>h) (fun A H'=>A.d=[]∧A.t 0=.lit (.slice (some ⟨r,0,none⟩) l.length c)∧A.t 1=f∧∃ k j M,A.t 5=iV (k:Nat)∧A.t 6=iV (j:Nat)∧k<j∧DlM l p k j M∧SubH Hb H'∧H' r=some (.cells 3 (encC intE M) sp))
  (fun A _=>match A.t 6 with | .lit (.int _ i)=>((l.length:Int)-i).toNat | _=>0) ?_ ?_
 ·exact ⟨rfl,(by simp only [Zv,Zl9,if_false, *]<;>rfl),(by simp only [Zv,Zl9,if_false, *]<;>rfl),i0,i0+1,l,(by simp only [Zv,Zl9,if_true,if_false, *]<;>rfl),(by simp only [Zv,Zl9,if_true,if_false, *]<;>rfl),by omega,hM,hs,hr⟩
 ·clear hr hM hs hx hne hwi hbf hp hi;rintro ⟨t,d⟩ H' ⟨hdd,h0,h1,k,j,M,h5,h6,hkj0,hM,hs,hr⟩;dsimp only at hdd h0 h1 h5 h6;subst hdd;delta b132_1 Za Ze Zn Zr Zk Zb Zc Zq Zg Zm;by_cases hlt:j<l.length
  ·have hjl:(j:Int)<(l.length:Int):=by omega
   have hMl:=hM.len;have hkj:=hM.kj;have hpj:=hf H' hs j hlt;have hgt:=hM.get hlt;have hjM:j<M.length:=by omega
   have hdj:=JO hjM;rw [ZmW hjM] at hgt;rw [Option.some.inj hgt] at hdj;have hkl:(k:Int)<(l.length:Int):=by omega
   have hset:=ints_set l[j] (show k<M.length by omega);have hwj:IntKind.wrap .i64 ((j:Int)+1)=((j+1:Nat):Int):=by rw [ZQ (by omega) (by omega)]; rfl
   have hwk:IntKind.wrap .i64 ((k:Int)+1)=((k+1:Nat):Int):=by rw [ZQ (by omega) (by omega)]; rfl
   have hml:=ZdI M;clear hgt;cases hpx:p l[j] with
   | true =>
     rw [hpx] at hpj;have hM2:=Hold.mk (hM.drop hlt hpx);replace hM:=Hold.mk hM
     (repeat' (first | (simp only [↓Zt,Zu,intV,boolV,Zl9,Zma,reduceCtorEq,Yd,YA, *]) | (refine hpj _ ?_) | (with_reducible refine And.intro ?_ ?_)))
     ·exact ⟨k,j+1,M,rfl,rfl,by omega,hM2.out,rfl⟩
     ·omega
   | false =>
     rw [hpx] at hpj;have hM2:=Hold.mk (hM.keep hlt hpx);replace hM:=Hold.mk hM
     (repeat' (first | (simp only [↓Zt,Zu,intV,boolV,Zl9,Zma,reduceCtorEq,setAt,Yd,Zfd,YA, *]) | (refine hpj _ ?_) | (with_reducible refine And.intro ?_ ?_)))
     ·omega
     ·exact ⟨k+1,j+1,M.set k l[j],rfl,rfl,by omega,hM2.out,hs.of_set hb,rfl⟩
     ·omega
  ·have hjl:¬ (j:Int)<(l.length:Int):=by omega
   replace hM:=Hold.mk hM
   (repeat' (first | (simp only [↓Zt,Zu,intV,Zl9,Zma,reduceCtorEq,YA, *])))
   obtain rfl:j=l.length:=by have:=hM.out.jl; omega
   have hMl:=hM.out.len;have hkj:=hM.out.kj;have hkept:=hM.out.kept;rw [ZmQ (Zmc _)] at hkept;have hml:=ZdI M;have hnz:¬ l.length-k=0:=by omega
   have hck:¬ c=k:=by omega
   delta c132_1 Za Zq Zr Zc;refine YL rfl (fun _ _ _ h=>h) ?_
   have hzs:∀ zs:List VV,k+zs.length≤(encC intE M).length→setAt (encC intE M) k zs=encC intE (l.filter fun x=>!p x)++(zs++(encC intE M).drop (k+zs.length)):=fun zs hz=>by
    rw [ZfM _ _ _ hz,Zm7,← ZlF,hkept]
   have hkl:(l.filter fun x=>!p x).length=k:=by rw [← hkept,ZmV]; omega
   replace hkept:=Hold.mk hkept;replace hkl:=Hold.mk hkl
   (repeat' (first | (simp only [↓Zt,Zu,↓s_clear,Zl9,Zma,reduceCtorEq,Xx,Zna,Zm1,Jc,idxV,idxOk,imp_self,Nat.sub_zero,Zct,YA,Wv, *]) | (refine ZC ?_) | (with_reducible refine And.intro ?_ ?_)))
   ·omega
   ·intro h; trivial
   ·omega
   ·omega
   ·have e:=hzs (List.map VV.lit (ZmH (l.length-k) [Value.int IntKind.i64 0]).flatten) (by simp; omega);rw [ite_self,e];have h2:=hK.out _ _ (hs.of_set hb) (AH.set_same H' r (.cells 3 (encC intE (l.filter fun x=>!p x)++(List.map VV.lit (ZmH (l.length-k) [Value.int IntKind.i64 0]).flatten++(encC intE M).drop (k+(List.map VV.lit (ZmH (l.length-k) [Value.int IntKind.i64 0]).flatten).length))) sp));rw [hkl.out] at h2;exact h2
end Go.PV.Ytfkkmdelpddojaa
end
section
open List renaming length_cons→Zmi,range→Zmm
open Nat renaming le_refl→Zmc
namespace Go.PV.Ytfkkmdelpddojaa
open Go Go.Proofs
def metF (l:List Int) (banned:List Int):List Int:=l.filter fun q=>!decide (q∈banned)
theorem ZaT (l banned:List Int):(metF l banned).length≤l.length:=List.length_filter_le _ _
theorem Zcp:∀ {l:List Int} {seen:List Int} {q:Int},q∈l→q ∉ seen→(metF l (q::seen)).length<(metF l seen).length
 | x::l,seen,q,h,hn=>by
   have hsub:∀ l:List Int,(metF l (q::seen)).length≤(metF l seen).length:=fun l=>by
    induction l with
    | nil=>exact Zmc _
    | cons y l ih =>
      unfold metF at *
      rw [List.filter_cons,List.filter_cons];by_cases h1:y∈seen
      ·rw [if_neg (by simp [h1]),if_neg (by simp [h1])]; exact ih
      ·by_cases h2:y=q
       ·rw [if_neg (by simp [h2]),if_pos (by simp [h1])]; rw [Zmi]; omega
       ·rw [if_pos (by simp [h1,h2]),if_pos (by simp [h1])]; rw [Zmi,Zmi]; omega
   have hs:=hsub l;by_cases hx:x=q
   ·subst hx;unfold metF at *
    rw [List.filter_cons,List.filter_cons,if_neg (by simp),if_pos (by simp [hn]),Zmi]; omega
   ·have ih:=Zcp (l:=l) (seen:=seen) (q:=q) (by rcases List.mem_cons.1 h with rfl | h; exact absurd rfl hx; exact h) hn;unfold metF at *
    rw [List.filter_cons,List.filter_cons];by_cases h1:x∈seen
    ·rw [if_neg (by simp [h1]),if_neg (by simp [h1])]; exact ih
    ·rw [if_pos (by simp [h1,hx]),if_pos (by simp [h1])]; rw [Zmi,Zmi]; omega
theorem ZlG {l:List Int} {seen:List Int} {q:Int} (h:q∈l) (hn:q ∉ seen):(metF l (seen++[q])).length<(metF l seen).length:=by
 have e:metF l (seen++[q])=metF l (q::seen):=by
  unfold metF;refine List.filter_congr fun x _=>?_
  congr 1
  exact decide_eq_decide.2 (by simp [or_comm])
 rw [e]; exact Zcp h hn
def headI (p:Pd):It:=match p.items with | i::_=>i | []=>zIt
def opL (g:List Pd) (W:ByteArray→Int→List Int→Bool × List Int) (sym:ByteArray) (least:Int):List Int→List Int→Bool × List Int
 | [],seen=>(false,seen)
 | q::qs,seen =>
   if q∈seen∨YH (pdAt g q) sym least=false then opL g W sym least qs seen
   else if XN (pdAt g q)=false then (true,q::seen)
   else if (W (headI (pdAt g q)).text (headI (pdAt g q)).prio (q::seen)).1=true then (true,(W (headI (pdAt g q)).text (headI (pdAt g q)).prio (q::seen)).2)
   else opL g W sym least qs (W (headI (pdAt g q)).text (headI (pdAt g q)).prio (q::seen)).2
def opW (g:List Pd) (met:List Int):Nat→ByteArray→Int→List Int→Bool × List Int
 | 0,_,_,seen=>(false,seen)
 | n+1,sym,least,seen=>opL g (opW g met n) sym least met seen
def openF (g:List Pd) (dn:Sp→List Int) (sym:ByteArray) (least:Int) (s:Sp) (banned:List Int):Bool:=(opW g (metF (dn s) banned) 13 sym least []).1
def itsG (l:List Tk) (has:It→Nat→Nat→Bool) (T:ByteArray→Int→Nat→Nat→List Tn):List It→Nat→Nat→List (List Tn)
 | [],f,t=>if f=t then [[]] else []
 | i::is,f,t =>
   if canL l has (i::is) f t=false then []
   else if i.kind=1 then itsG l has T is (f+1) t
   else if i.kind=2 then (itsG l has T is (f+1) t).map (Tn.mk (-1) f []::·)
   else (Zmm (t-f)).flatMap fun j=>if canL l has is (f+1+j) t=false then [] else (T i.text i.prio f (f+1+j)).flatMap fun x=>(itsG l has T is (f+1+j) t).map (x::·)
def treQ (g:List Pd) (l:List Tk) (dn:Sp→List Int) (T:ByteArray→Int→Nat→Nat→List Int→List Tn) (sym:ByteArray) (least:Int) (f t:Nat) (banned:List Int) (q:Int):List Tn :=
 if YH (pdAt g q) sym least=false∨q∈banned then []
 else if XN (pdAt g q)=false then (itsG l (hasF g dn) (fun s p f t=>T s p f t []) (pdAt g q).items f t).map fun ks=>Tn.mk q 0 ks
 else if openF g dn (headI (pdAt g q)).text (headI (pdAt g q)).prio (f,t) (banned++[q])=false then []
 else (T (headI (pdAt g q)).text (headI (pdAt g q)).prio f t (banned++[q])).map fun x=>Tn.mk q 0 [x]
def tresG (g:List Pd) (l:List Tk) (dn:Sp→List Int):Nat→ByteArray→Int→Nat→Nat→List Int→List Tn
 | 0,_,_,_,_,_=>[]
 | n+1,sym,least,f,t,banned=>(dn (f,t)).flatMap (treQ g l dn (tresG g l dn n) sym least f t banned)
end Go.PV.Ytfkkmdelpddojaa
end
section
open Bool renaming and_self→Zmp
open List renaming map_cons→Zmd,map_nil→Zmg,getD_cons_zero→Zmq,getD_cons_succ→Zmr,getD_nil→Zms,drop→Zmb,cons_append→Zm5,nil_append→ZmO,append_nil→ZmF,length_cons→Zmi,length_nil→Zml,all_cons→Zmz,all_nil→ZmJ,set_cons_zero→Zmn
open Nat renaming lt_or_ge→ZmI,reduceEqDiff→Zl9,reduceLT→Zma,succ_ne_self→Zme,zero_add→Zmh,le_refl→Zmc
set_option maxRecDepth 20000
set_option maxHeartbeats 4000000
namespace Go.PV.Ytfkkmdelpddojaa
open Go Go.Proofs
theorem Zja {p:Int→Bool}:∀ {l:List Int},¬ (∀ x∈l,p x=false)→∃ i,∃ h:i<l.length,p l[i]=true∧∀ j (h:j<l.length),j<i→p l[j]=false
 | [],h=>absurd (fun x hx=>by cases hx) h
 | x::l,h=>by
   cases hx:p x with
   | true=>exact ⟨0,by simp,hx,fun j _ h=>by omega⟩
   | false =>
     obtain ⟨i,hi,h1,h2⟩:=Zja (l:=l) (p:=p) (fun h'=>h fun y hy=>by
      rcases List.mem_cons.1 hy with rfl | hy
      ·exact hx
      ·exact h' y hy)
     refine ⟨i+1,by simpa using hi,h1,fun j hj hji=>?_⟩;cases j with
     | zero=>exact hx
     | succ j=>exact h2 j (by simpa using hj) (by omega)
theorem del_cl {l:List Int} {v f:VV} {p:Int→Bool} {H0 H:AH} {K:VE→AH→Prop} (hl:l.length≤1000) (h:ClR H0 H v l) (hf:∀ H',SubH H0 H'→∀ i (h:i<l.length),FnAt Try.prog f [iV l[i]] (boolV (p l[i])) H')
 (h0:(∀ x∈l,p x=false)→K (.ret v) H)
 (h1:(l.filter fun x=>!p x).length<l.length→∀ a c sp junk H',SubH H0 H'→H' a=some (.cells 3 (encC intE (l.filter fun x=>!p x)++junk) sp)→K (.ret (.lit (.slice (some ⟨a,0,none⟩) (l.filter fun x=>!p x).length c))) H'):ZO Try.prog 132 [v,f] H K:=by
 by_cases hn:∀ x∈l,p x=false
 ·exact del_none h.read (by omega) (hf H h.1) hn (h0 hn)
 ·have hlt:(l.filter fun x=>!p x).length<l.length:=by
   rcases ZmI (l.filter fun x=>!p x).length l.length with h | h
   ·exact h
   ·refine absurd (fun x hx=>?_) hn;have he:l.filter (fun x=>!p x)=l:=List.filter_sublist.eq_of_length_le h
    have:=List.filter_eq_self.1 he x hx
    simpa using this
  obtain ⟨hs,⟨rfl,_⟩ | ⟨r,c,sp,rfl,hc,hb,hr⟩⟩:=h
  ·exact absurd (fun x hx=>by cases hx) hn
  ·obtain ⟨i0,hi,hp,hbf⟩:=Zja hn;exact del_some hl hr hb hs hc hf hi hp hbf fun H' junk hs' hr'=>h1 hlt _ _ _ _ _ hs' hr'
theorem ClR.gh {H0 H:AH} {v:VV} {l:List Int} (h:ClR H0 H v l):GhV H v H0 (intsV l):=by
 obtain ⟨hs,⟨rfl,rfl | rfl⟩ | ⟨r,c,sp,rfl,hc,hb,hr⟩⟩:=h
 ·exact (GhV.nil H).trans (GhV.forget hs _)
 ·exact (GhV.imm H).trans (GhV.forget hs _)
 ·exact (GhV.slice hr hc).trans (GhV.forget (hs.del hb) _)
theorem op1_ok {x:Int} {w bv:VV} {banned:List Int} {r9:Nat} {H:AH} {K:VE→AH→Prop} (hb:banned.length≤1000) (hbv:SlR H bv banned.length (encC intE banned)) (hbc:bv.cells=[bv]) (h9:H r9=some (.cells 108 [bv] 0)) (hK:K (.ret (boolV (!decide (x∈banned)))) H):ZO Try.prog 107 [iV x,w,ptrV r9 0] H K:=by
 have hi:=fun K'=>inInt (l:=banned) (v:=bv) (x:=x) (H:=H) (K:=K') hbv (by omega)
 clear hbv;refine Zy fd107 (by simp) ?_;delta c107 Zq Zb Za Zo Zr Zc
 (repeat' (first | (refine hi _ ?_) | (simp only [↓Ya,↓Ye,↓Xe,↓ZY,↓ZF,↓ZD,↓ZG,↓ZH,↓ZJ,↓ZI,↓ZP,↓ZU,↓Zv,↓ZR,↓ZE,↓ZS,↓s_un,↓ZK,↓ZL,↓Yj,ptrV,boolV,Zmd,Zmg,Zmq,Zmr,Zms,ite_true,ite_false,Zl9,Zma,true_and,Zme,reduceCtorEq,Zx,eq_self,Zmb,Yq,Yn,Yo,Yp,undef,JW,Zjz, *]) | (refine ZC ?_) | assumption))
abbrev op1V (r9:Nat):VV:=.func (.func 107) [] [ptrV r9 0]
theorem fix1_ok {x:Int} {w bv:VV} {banned:List Int} {r2 r3 r9:Nat} {H:AH} {K:VE→AH→Prop} (hb:banned.length≤1000) (hbv:SlR H bv banned.length (encC intE banned)) (hbc:bv.cells=[bv]) (h9:H r9=some (.cells 108 [bv] 0)) (h3:H r3=some (.cells 187 [op1V r9] 0)) (h2:H r2=some (.cells 108 [w] 0)) (hc:w.cells=[w])
 (hK:K (.ret (boolV (decide (x∈banned)))) H):ZO Try.prog 134 [iV x,ptrV r3 0,ptrV r2 0] H K:=by
 have hi:=fun K'=>op1_ok (x:=x) (w:=w) (K:=K') hb hbv hbc h9
 have hnn:(!(!decide (x∈banned)))=decide (x∈banned):=Bool.not_not _;rw [← hnn] at hK;clear hnn hbv;refine Zy fd134 (by simp) ?_;delta c134 Zq Zb Za Zr Zc
 (repeat' (first | (refine hi _ ?_) | (simp only [↓Ya,↓Ye,↓Xe,↓ZY,↓ZF,↓ZD,↓ZG,↓ZH,↓ZJ,↓ZI,↓ZP,↓Zv,↓ZR,↓ZE,↓ZS,↓s_un,↓ZK,↓Zcy,↓Yj,ptrV,boolV,Zmd,Zmg,Zmq,Zmr,Zms,Zm5,ZmO,ite_true,ite_false,Zl9,Zma,true_and,Zme,reduceCtorEq,Zx,eq_self,Zmb,Yq,Yn,Yo,Yp,undef,ldT_187,JW, *]) | (refine ZC ?_) | assumption | (with_reducible refine And.intro ?_ ?_)))
 exact en_107
def CvR (H:AH) (v:VV) (M:List Int):Prop:=(M=[]∧v=.lit (.slice none 0 0))∨∃ a c sp junk,v=.lit (.slice (some ⟨a,0,none⟩) M.length c)∧H a=some (.cells 3 (encC intE M++junk) sp)
theorem CvR.one {H:AH} {v:VV} {M:List Int} (h:CvR H v M):v.cells=[v]∧VV.one v=true:=by
 rcases h with ⟨_,rfl⟩ | ⟨_,_,_,_,rfl,_⟩<;>exact ⟨rfl,rfl⟩
theorem CvR.clone {l:List Int} {v:VV} {H:AH} {K:VE→AH→Prop} (hl:l.length≤1000) (hv:CvR H v l) (hK:∀ v' H',ClR H H' v' l→K (.ret v') H'):ZO Try.prog 133 [v] H K:=by
 rcases hv with ⟨rfl,rfl⟩ | ⟨a,c,sp,junk,rfl,hr⟩
 ·exact ZlE (l:=[]) (hK _ _ ⟨SubH.refl _,.inl ⟨rfl,.inl rfl⟩⟩)
 ·exact clone_ok hl hr hK
theorem IlR.cv {H:AH} {v:VV} {l:List Int} (h:IlR H v l):CvR H v l:=by
 rcases h with h | ⟨a,c,sp,h1,h2⟩
 ·exact .inl h
 ·exact .inr ⟨a,c,sp,[],h1,by rw [ZmF]; exact h2⟩
theorem CvR.len {H H':AH} {v:VV} {M:List Int} {K:VE→AH→Prop} (h:CvR H v M) (hk:K (.ret (iV M.length)) H'):vcLen Try.prog 108 v H' K:=by
 rcases h with ⟨rfl,rfl⟩ | ⟨_,_,_,_,rfl,_⟩<;>exact ⟨by simp [YA],hk⟩
theorem ClR.len {H0 H H':AH} {v:VV} {M:List Int} {K:VE→AH→Prop} (h:ClR H0 H v M) (hk:K (.ret (iV M.length)) H'):vcLen Try.prog 108 v H' K:=by
 rcases h.2 with ⟨rfl,rfl | rfl⟩ | ⟨_,_,_,rfl,_⟩<;>exact ⟨by simp [YA],hk⟩
theorem ZlH (l b:List Int):metF (metF l b) b=metF l b:=by unfold metF; rw [List.filter_filter]; simp
theorem ZlI {l b:List Int} (h:∀ x∈l,decide (x∈b)=false):metF l b=l:=by
 unfold metF;refine List.filter_eq_self.2 fun x hx=>?_
 rw [h x hx]; rfl
theorem fix_ok {l:List Int} {v bv:VV} {banned:List Int} {r9:Nat} {H:AH} (hl:l.length≤1000) (hb:banned.length≤1000) (hbv:SlR H bv banned.length (encC intE banned)) (hbc:bv.cells=[bv]) (hv:IlR H v l) (h9:H r9=some (.cells 108 [bv] 0)):ZO Try.prog 106 [v,op1V r9] H (fun e H'=>∃ y,e=.ret y∧GhV H' y H (intsV (metF l banned))):=by
 obtain ⟨hvc,hv1⟩:=hv.cv.one;refine Zy fd106 (by simp) ?_;delta c106 Zj Zq
 (repeat' (first | (simp only [↓Zt,Zu,ptrV,Zl9,Zma,Zx,ZkK,undef, *]) | (refine Zw fun zr zh=>?_; have zg:=zh; (try simp only [AH.set_none] at zg); (try have zn_h9:=AH.ne_of h9 zh); (try have zn_h9:=AH.ne_of h9 zg.2); (try have zn_h9:=AH.ne_of h9 zg.2.2); (try have zn_h9:=AH.ne_of h9 zg.2.2.2); (try have zn_h9:=AH.ne_of h9 zg.2.2.2.2))))
 rename_i r2 n2 n2' d2;have g3:H zr=none:=zg.2;have g32:¬ zr=r2∧¬ r2=zr:=zg.1;clear zh zg zn_h9;generalize zr=r3 at *
 obtain ⟨Hx,hHx⟩:∃ Hx,Hx=H.set r3 (.cells 187 [op1V r9] 0):=⟨_,rfl⟩
 have x3:Hx r3=some (.cells 187 [op1V r9] 0):=by rw [hHx]; exact AH.set_same _ _ _
 have hx0:SubH H Hx:=by rw [hHx]; exact SubH.new g3
 have x9:=hx0 _ _ h9;have hbv2:=Hold.mk hbv;clear hbv;have x2:Hx r2=none:=by rw [hHx,AH.set_ne _ _ g32.2]; exact n2
 have hs0:SubH Hx ((H.set r2 (.cells 108 [v] 0)).set r3 (.cells 187 [op1V r9] 0)):=by rw [hHx]; exact (SubH.new n2).set _ _
 have hv0:=(hv.mono (hx0.trans hs0)).cv;have q20:((H.set r2 (.cells 108 [v] 0)).set r3 (.cells 187 [op1V r9] 0)) r2=some (.cells 108 [v] 0):=by rw [AH.set_ne _ _ g32.2]; exact AH.set_same _ _ _
 refine Zeh (fun _ _ _ h=>h) (fun n A H'=>A.d=[]∧A.t 2=ptrV r2 0∧A.t 3=ptrV r3 0∧∃ M w,n=M.length∧metF M banned=metF l banned∧M.length≤1000∧CvR H' w M∧SubH Hx H'∧H' r2=some (.cells 108 [w] 0)) (n0:=l.length) ?_ ?_
 ·exact ⟨rfl,(by simp only [Zv,Zl9,if_true,if_false, *]<;>rfl),(by simp only [Zv,Zl9,if_true,if_false, *]<;>rfl),l,v,rfl,rfl,hl,hv0,hs0,q20⟩
 ·clear hv0 q20 hs0 hv hvc hv1 hHx n2 n2' d2 g3 h9;rintro n ⟨t,d⟩ H' ⟨hdd,t2,t3,M,w,hn,hm,hml,hcv,hsx,q2⟩ R hR;dsimp only at hdd t2 t3;subst hdd;have q3:=hsx _ _ x3;have hcl:∀ K':VE→AH→Prop,(∀ v' H2,ClR H' H2 v' M→H2 r2=some (.cells 108 [w] 0)→K' (.ret v') H2)→ZO Try.prog 133 [w] H' K':=fun K' k=>hcv.clone hml fun v' H2 hc2=>k v' H2 hc2 (hc2.1 _ _ q2)
  have hwc:=hcv.one.1
  have hdel:∀ v' H2,ClR H' H2 v' M→∀ K':VE→AH→Prop,(metF M banned=M→K' (.ret v') H2)→(¬ ((metF M banned).length:Int)=(M.length:Int)→(metF M banned).length<M.length→∀ a c sp junk H3,SubH H' H3→H3 r2=some (.cells 108 [w] 0)→H3 a=some (.cells 3 (encC intE (metF M banned)++junk) sp)→K' (.ret (.lit (.slice (some ⟨a,0,none⟩) (metF M banned).length c))) H3) →
   ZO Try.prog 132 [v',.func (.func 134) [] [ptrV r3 0,ptrV r2 0]] H2 K':=fun v' H2 hc2 K' k0 k1=>by
   refine del_cl (p:=fun x=>decide (x∈banned)) hml hc2 (fun H3 hs3 i hi=>FnAt.cap en_134 fun K2 hk2=>fix1_ok hb (hbv2.out.mono ((hx0.trans hsx).trans hs3)) hbc (hs3 _ _ (hsx _ _ x9)) (hs3 _ _ q3) (hs3 _ _ q2) hwc hk2) (fun hn=>k0 (ZlI hn)) (fun hlt a c sp junk H3 hs3 ha=>?_);have hlt:(metF M banned).length<M.length:=hlt;exact k1 (by omega) hlt a c sp junk H3 hs3 (hs3 _ _ q2) ha
  have hlw:=fun H' K'=>hcv.len (H':=H') (K:=K')
  replace hcv:=Hold.mk hcv;replace hm:=Hold.mk hm;replace hR:=Hold.mk hR;replace hn:=Hold.mk hn;delta b106_1 Zb Zo Zr Zq Zc Za Ze Zn Zg
  (repeat' (first | (refine hcl _ (fun v' H2 hc2 q22=>?_)) | (refine hdel _ _ hc2 _ (fun hn=>?_) (fun hne hlt a c sp junk H3 hs3 q23 ha=>?_)) | (simp only [↓Yt,↓Ya,↓Ye,↓ZZ,↓Yb,↓Yv,↓Ys,↓Xe,↓ZY,↓ZF,↓ZD,↓Xs,↓Jg,↓ZcV,↓ZG,↓ZH,↓YX,↓ZJ,↓YY,↓ZI,↓ZU,↓Zv,↓ZR,↓ZE,↓ZS,↓YR,↓Yy,↓Wm,↓ZX,↓ZK,↓ZL,↓Xk,↓Yr,ptrV,intV,Zmd,Zmg,Zmi,Zml,ite_true,ite_false,Zl9,Zma,ne_eq,not_false_eq_true,true_and,Zme,decide_true,decide_false,reduceCtorEq,setAt,Zmz,ZmJ,Zmp,eq_self,Zmh,Zmb,Yq,Zl6,on_sl,Zmn,Zmc,Yn,Zih,Yo,Yp,Wf,Wg,JW,ZhG,YA,en_133,en_132, *]) | (refine ZC ?_) | (refine hlw _ _ ?_) | (refine hc2.len ?_)))
  ·refine ⟨v',rfl,?_⟩;rw [← hm.out,hn];exact hc2.gh.trans (GhV.forget (hx0.trans hsx) _)
  ·have har:¬ a=r2:=fun e=>by subst e; rw [q23] at ha; cases ha
   refine hR.out (metF M banned).length _ _ ?_ ⟨rfl,(by simp only [Zv,Zl9,if_false, *]<;>rfl),(by simp only [Zv,Zl9,if_false, *]<;>rfl),metF M banned,_,rfl,?_,by omega,.inr ⟨a,c,sp,junk,rfl,(AH.set_ne _ _ har).trans ha⟩,(hsx.trans hs3).of_set x2,AH.set_same _ _ _⟩
   ·have h:=‹Hold (n=M.length)›.out;rw [h]; exact hlt
   ·rw [ZlH]; exact hm.out
end Go.PV.Ytfkkmdelpddojaa
end
section
open Bool renaming and_eq_true→ZmA,false_eq_true→Zmv,not_false→ZmG,not_true→ZmK,and_self→Zmp
open Int renaming natCast_nonneg→ZmL,toNat_natCast→Zmw
open List renaming mem_cons_of_mem→ZmN,drop→Zmb,drop_zero→Zm4,getElem_mem→ZmE,drop_eq_getElem_cons→ZmY,map_cons→Zmd,map_nil→Zmg,cons_append→Zm5,nil_append→ZmO,length_cons→Zmi,length_nil→Zml,getD_cons_zero→Zmq,getD_cons_succ→Zmr,getD_nil→Zms,all_cons→Zmz,all_nil→ZmJ,set_cons_zero→Zmn
open Nat renaming reduceEqDiff→Zl9,reduceLT→Zma,succ_ne_self→Zme,mul_one→ZmM,add_zero→Zmo,zero_add→Zmh,le_refl→Zmc
set_option maxRecDepth 20000
set_option maxHeartbeats 4000000
namespace Go.PV.Ytfkkmdelpddojaa
open Go Go.Proofs
def inK (i:Int):Value:=.int .i64 i
def inOk (i:Int):Prop:=0≤i∧i≤1099511627776
theorem kmIn:KMap Try.prog 188 (.bool false) inK (fun i=>iV i) inOk:=⟨⟨3,4,by kernel_rfl,Go.Maps.int_keyed (q:=.i64) (by kernel_rfl),by kernel_rfl⟩,fun a b h=>by simpa [inK] using h,fun _=>rfl,fun i h=>by
 have hw:(Lit.int .i64 i).wf=true:=by
  simp only [Lit.wf,ZmA,decide_eq_true_eq];exact ⟨show -9223372036854775808≤i by have:=h.1; omega,show i≤9223372036854775807 by have:=h.2; omega⟩
 have:∃ l,keyOf Try.prog 3 (inK i)=some l:=by
  simp only [keyOf,inK,Zbi,mapKey,hw,and_self,if_true];exact ⟨_,rfl⟩
 obtain ⟨l,hl⟩:=this;exact ⟨3,4,l,by kernel_rfl,hl⟩⟩
def seenM (seen:List Int):Int→Option VV:=fun q=>if q∈seen then some (boolV true) else none
theorem Zj1 (q:Int) (seen:List Int):kupd (seenM seen) q (boolV true)=seenM (q::seen):=by
 funext x
 by_cases h:x=q
 ·subst h; rw [Za0]; simp [seenM]
 ·rw [ZdS _ _ h]; simp [seenM,h]
theorem ZlJ:seenM []=fun _=>none:=by funext x; simp [seenM]
def OpS (Hb:AH) (rm:Nat) (seen:List Int) (H:AH):Prop:=SubH Hb H∧H rm=some (.map (ZW Try.prog 188) (kmap inK (seenM seen)))
theorem Zb2 {p:Pd} (h:XN p=true):∃ i,p.items=[i]∧headI p=i∧i.kind=3:=by
 unfold XN at h;split at h
 ·rename_i i hi;exact ⟨i,hi,by unfold headI; rw [hi],by simpa using h⟩
 ·cases h
theorem Zhc {l s s':List Int} (h:∀ x∈s,x∈s'):(metF l s').length≤(metF l s).length:=by
 unfold metF;rw [← List.countP_eq_length_filter,← List.countP_eq_length_filter];refine List.countP_mono_left fun x _ hx=>?_
 have hx:x ∉ s':=by simpa using hx
 simpa using fun h'=>hx (h _ h')
theorem ZhW {g:List Pd} {W:ByteArray→Int→List Int→Bool × List Int} {sym:ByteArray} {least:Int} (hW:∀ a b s x,x∈s→x∈(W a b s).2):∀ (qs seen:List Int) (x:Int),x∈seen→x∈(opL g W sym least qs seen).2
 | [],seen,x,h=>h
 | q::qs,seen,x,h=>by
   rw [opL];split
   ·exact ZhW hW qs seen x h
   ·split
    ·exact ZmN _ h
    ·split
     ·exact hW _ _ _ _ (ZmN _ h)
     ·exact ZhW hW qs _ x (hW _ _ _ _ (ZmN _ h))
theorem Zk3 {g:List Pd} {met:List Int}:∀ (n:Nat) (a:ByteArray) (b:Int) (s:List Int) (x:Int),x∈s→x∈(opW g met n a b s).2
 | 0,_,_,_,_,h=>h
 | n+1,a,b,s,x,h=>by rw [opW]; exact ZhW (Zk3 n) met s x h
theorem Hold.use' {P:Bool × List Int→AH→Prop} {K:VE→AH→Prop} {X Y:Bool × List Int} {H:AH} (h:Hold (∀ H',P X H'→K (.ret (boolV X.1)) H')) (e:X=Y) (hp:P Y H):K (.ret (boolV Y.1)) H:=by
 subst e; exact h.out _ hp
abbrev opV (r2 r3 r4 r5:Nat):VV:=.func (.func 108) [] [ptrV r2 0,ptrV r3 0,ptrV r4 0,ptrV r5 0]
theorem walk_ok {g:List Pd} {l:List Tk} {dn:Sp→List Int} {rc rk r2 r3 r4 r5 rm:Nat} {met:List Int} {Hb:AH} (hc:FC1 g l dn rc rk Hb) (hd:DOk g l dn) (hm:met.length≤12) (hin:∀ q∈met,0≤q∧q<(g.length:Int))
 (h2:Hb r2=some (.cells 108 [intsV met] 0)) (h3:Hb r3=some (.cells 188 [mapV rm] 0)) (h4:Hb r4=some (.cells 93 [ptrV rc 0] 0)) (h5:Hb r5=some (.cells 110 [opV r2 r3 r4 r5] 0)) (hm0:Hb rm=none) :
 ∀ (n:Nat) (sym:ByteArray) (least:Int) (seen:List Int) (H:AH) (K:VE→AH→Prop),(metF met seen).length<n→OpS Hb rm seen H→(∀ H',OpS Hb rm (opW g met n sym least seen).2 H'→K (.ret (boolV (opW g met n sym least seen).1)) H') →
   ZO Try.prog 108 [sV sym,iV least,ptrV r2 0,ptrV r3 0,ptrV r4 0,ptrV r5 0] H K:=by
 intro n
 induction n with
 | zero=>intro sym least seen H K h; omega
 | succ n ih =>
   intro sym least seen H K hn hS hK;obtain ⟨X,hX⟩:∃ X,X=opW g met (n+1) sym least seen:=⟨_,rfl⟩
   rw [← hX] at hK;rw [opW] at hX;have hgl:=hd.gok.len;have hgl2:g.length≤1099511627776:=by omega
   obtain ⟨rs,rd,vd,hc1,_,_⟩:=id hc;have qc:=hS.1 _ _ hc1;have q2:=hS.1 _ _ h2;have q3:=hS.1 _ _ h3;have q4:=hS.1 _ _ h4;have q5:=hS.1 _ _ h5;replace hK:=Hold.mk hK;replace hS:=Hold.mk hS;replace hX:=Hold.mk hX;replace hc:=Hold.mk hc;replace hn:=Hold.mk hn;refine Zy fd108 (by simp) ?_;delta c108 Zq Zb Ze
   (repeat' (first | (simp only [↓Zt,Zu,ptrV,intV,Zl9,Zma,reduceCtorEq,Zx,Zmb,undef,JW,YA, *])))
   clear q2 q3 q4 q5 qc
   refine YJ (fun _ _ _ h=>h) (fun A H'=>A.d=[]∧A.t 0=sV sym∧A.t 1=iV least∧A.t 2=ptrV r2 0∧A.t 3=ptrV r3 0∧A.t 4=ptrV r4 0∧A.t 5=ptrV r5 0∧A.t 11=intsV met∧A.t 12=iV met.length∧∃ (i:Nat) (s:List Int),i≤met.length∧A.t 13=iV i∧Hold (X=opL g (opW g met n) sym least (met.drop i) s)∧Hold (OpS Hb rm s H')∧Hold ((metF met s).length<n+1))
    (fun A _=>match A.t 13 with | .lit (.int _ i)=>((met.length:Int)-i).toNat | _=>0) ?_ ?_
   ·exact ⟨rfl,(by simp only [Zv,Zl9,if_false, *]<;>rfl),(by simp only [Zv,Zl9,if_false, *]<;>rfl),(by simp only [Zv,Zl9,if_false, *]<;>rfl),(by simp only [Zv,Zl9,if_false, *]<;>rfl),(by simp only [Zv,Zl9,if_false, *]<;>rfl),(by simp only [Zv,Zl9,if_false, *]<;>rfl),(by simp only [Zv,Zl9,if_true,if_false, *]<;>rfl),(by simp only [Zv,Zl9,if_true,if_false, *]<;>rfl),0,seen,by omega,(by simp only [Zv,Zl9,if_true,if_false, *]<;>rfl),⟨by rw [Zm4]; exact hX.out⟩,hS,hn⟩
   ·clear hS hX hn;rintro ⟨t,d⟩ H' ⟨hdd,t0,t1,t2,t3,t4,t5,t11,t12,i,s,hi,t13,hX,hS,hn⟩;dsimp only at hdd t0 t1 t2 t3 t4 t5 t11 t12 t13;subst hdd;have qc:=hS.out.1 _ _ hc1;have q2:=hS.out.1 _ _ h2;have q3:=hS.out.1 _ _ h3;have q4:=hS.out.1 _ _ h4;have q5:=hS.out.1 _ _ h5;have qm:=hS.out.2;delta b108_1 Zn Zr Zk Zb Zc Za Zq Zp Zo Zm;by_cases hlt:i<met.length
    ·have hil:(i:Int)<(met.length:Int):=by omega
     have hdi:=JO hlt;obtain ⟨k0,k1⟩:=hin _ (ZmE hlt);have hXd:=hX.out;rw [ZmY hlt] at hXd;have hqm:met[i]∈met:=ZmE hlt;generalize met[i]=q at *
     obtain ⟨k,rfl⟩:∃ k:Nat,q=(k:Int):=⟨q.toNat,by omega⟩
     have hkl:k<g.length:=by omega
     have hpd:=WG hkl;have hsv:=Zch g[k] sym least;have hwi:IntKind.wrap .i64 ((i:Int)+1)=((i+1:Nat):Int):=by rw [ZQ (by omega) (by omega)]; rfl
     have hlk:∀ (H':AH) (K':VE→AH→Prop),H' rm=some (.map (ZW Try.prog 188) (kmap inK (seenM s)))→K' (.ret (boolV (decide ((k:Int)∈s)))) H'→XP Try.prog 188 (mapV rm) (iV (k:Nat)) false H' K':=fun H' K' hr hk=>by
      refine Za1 (kx:=fun i=>iV i) (a:=(k:Int)) kmIn ⟨by omega,by omega⟩ hr (fun y hy=>?_) (fun hy=>?_)
      ·by_cases e:(k:Int)∈s
       ·simp only [seenM,e,if_true,Option.some.injEq] at hy; subst hy; rw [decide_eq_true e] at hk; exact hk
       ·simp [seenM,e] at hy
      ·by_cases e:(k:Int)∈s
       ·simp [seenM,e] at hy
       ·rw [decide_eq_false e] at hk; exact hk
     have hup:∀ (H':AH) (K':VE→AH→Prop),H' rm=some (.map (ZW Try.prog 188) (kmap inK (seenM s)))→K' (.ret Zx) (H'.set rm (.map (ZW Try.prog 188) (kmap inK (seenM ((k:Int)::s)))))→XY Try.prog 188 (mapV rm) (iV (k:Nat)) (boolV true) H' K':=fun H' K' hr hk=>by
      rw [← Zj1] at hk;exact Zef (kx:=fun i=>iV i) (a:=(k:Int)) kmIn ⟨by omega,by omega⟩ hr hk
     have hsi:=fun H' h=>ZfF (H:=H') hc.out hd h hkl
     have hpa:=Xa hkl;rw [opL,hpa] at hXd;clear hpa hX;have hil2:(k:Int)<(g.length:Int):=by omega
     have hS2:OpS Hb rm ((k:Int)::s) (H'.set rm (.map (ZW Try.prog 188) (kmap inK (seenM ((k:Int)::s))))):=⟨hS.out.1.of_set hm0,AH.set_same _ _ _⟩
     have hn2:(k:Int) ∉ s→(metF met ((k:Int)::s)).length<n:=fun h=>by have:=Zcp hqm h; have:=hn.out; omega
     have d3:=AH.ne_of h3 hm0;have d4:=AH.ne_of h4 hm0;have d5:=AH.ne_of h5 hm0;have dc:=AH.ne_of hc1 hm0;replace hn2:=Hold.mk hn2;generalize g[k]=p at *
     by_cases hks:(k:Int)∈s
     ·have hdec:decide ((k:Int)∈s)=true:=decide_eq_true hks;rw [hdec] at hlk;rw [if_pos (.inl hks)] at hXd;replace hXd:=Hold.mk hXd;clear hdec hks hup hS2 hn2 hsi
      (repeat' (first | (refine hlk _ _ (by assumption) ?_) | (simp only [↓Yt,↓Ya,↓Ye,↓ZZ,↓Yb,↓Ys,↓ZaJ,↓ZY,↓ZF,↓Yk,↓WJ,↓ZD,↓JB,↓ZcU,↓ZG,↓ZH,↓ZJ,↓ZI,↓ZP,↓ZU,↓Zv,↓ZR,↓ZE,↓ZV,↓Ym,↓YE,↓ZS,↓Yy,↓ZN,↓Wn,↓Yl,↓Yz,ptrV,boolV,ite_true,ite_false,Zl9,Zma,true_and,Zme,decide_true,reduceCtorEq,ZmL,Zmw,ZmM,Yc,Zx,eq_self,Zmb,and_self,Yq,WC,Yn,WE,XG,Yo,WD,Yp,undef,Yd,ZdO,YA,ZcS, *]) | (with_reducible refine And.intro ?_ ?_)))
      ·exact ⟨i+1,s,by omega,rfl,⟨hXd.out⟩,hS,hn⟩
      ·omega
     ·have hdec:decide ((k:Int)∈s)=false:=decide_eq_false hks;rw [hdec] at hlk;clear hdec;cases hse:YH p sym least with
      | false =>
        rw [hse] at hsv;rw [if_pos (.inr hse)] at hXd;replace hXd:=Hold.mk hXd;clear hks hup hS2 hn2 hsi hse
        (repeat' (first | (refine hlk _ _ (by assumption) ?_) | (simp only [↓Yt,↓Ya,↓Ye,↓ZZ,↓Yb,↓Ys,↓ZaJ,↓ZY,↓ZF,↓Yk,↓YN,↓ZD,↓JB,↓ZcU,↓ZG,↓ZH,↓ZJ,↓ZI,↓ZP,↓ZU,↓Zv,↓ZR,↓ZE,↓ZV,↓Ym,↓YE,↓ZS,↓Yh,↓Yy,↓s_un,↓ZA,↓ZN,↓Wn,↓ZK,↓ZL,↓Yj,↓Yl,↓Yz,vcNil,ptrV,boolV,Zmd,Zmg,ite_true,ite_false,Zl9,Zma,ne_eq,not_false_eq_true,true_and,Zmv,Zme,decide_true,ZmG,reduceCtorEq,ZmL,Zmw,ZmM,eq_self,Zmo,Zmb,and_self,Yq,Jk,WC,Yn,YK,WE,XG,Yo,WD,Yp,YG,YU,Yd,ZdO,YT,Xz,Je,YA,Xb,ZcS, *]) | (refine PureF.use (hsv) ?_) | (with_reducible refine And.intro ?_ ?_)))
        ·exact ⟨i+1,s,by omega,rfl,⟨hXd.out⟩,hS,hn⟩
        ·omega
      | true =>
        rw [hse] at hsv;rw [if_neg (by simp [hks,hse])] at hXd;have hsg:=hsi _ hS2.1;clear hsi hse;cases hsp:XN p with
        | false =>
          rw [hsp] at hsg;rw [if_pos hsp] at hXd;replace hXd:=Hold.mk hXd;replace hS2:=Hold.mk hS2;clear hks hn2 hsp
          (repeat' (first | (refine hlk _ _ (by assumption) ?_) | (refine hup _ _ (by assumption) ?_) | (refine hsg.use ?_) | (simp only [↓Yt,↓Ya,↓Ye,↓ZZ,↓Yb,↓Yv,↓Ys,↓Xe,↓XF,↓ZY,↓ZF,↓Yk,↓WJ,↓YN,↓ZD,↓Xs,↓ZcV,↓ZG,↓ZH,↓YX,↓ZJ,↓YY,↓ZI,↓ZP,↓ZU,↓Zv,↓ZR,↓ZE,↓ZV,↓Ym,↓YE,↓ZS,↓Yh,↓Yy,↓s_un,↓ZA,↓ZN,↓Wn,↓WO,↓ZK,↓ZL,↓Yj,↓Yl,vcNil,ptrV,boolV,Zmd,Zmg,ite_true,ite_false,Zl9,Zma,ne_eq,not_false_eq_true,true_and,Zmv,Zme,decide_true,ZmK,ZmG,reduceCtorEq,ZmL,Zmw,ZmM,Yc,Zx,↓Xc,↓Xg,↓WF,↓Xm,AH.get,eq_self,Zmo,Zmb,and_self,Yq,Jk,WC,Yn,YK,WE,XG,Yo,WD,Yp,YG,↓Wy,↓XM,↓ZcY,undef,YU,Yd,ZdO,YT,Xz,Je,YA,Xb,ZcS,ZjA, *]) | (refine ZC ?_) | (refine Yf mixed (fun _ _ _ _ e h=>⟨e.trans h.1,h.2⟩) _ (SubH.refl _) ?_) | (exact SubH.refl _) | (refine PureF.use (hsv) ?_) | (with_reducible refine And.intro ?_ ?_)))
          exact Hold.use' (P:=fun X H=>OpS Hb rm X.2 H) hK (hXd.out) hS2.out
        | true =>
          rw [hsp] at hsg;rw [if_neg (by simp [hsp])] at hXd;obtain ⟨i1,hit,hhd,h3k⟩:=Zb2 hsp;rw [hhd] at hXd;have hwk:=fun K'=>ih i1.text i1.prio ((k:Int)::s) _ K' (hn2.out hks) hS2
          obtain ⟨Y,hY⟩:∃ Y,Y=opW g met n i1.text i1.prio ((k:Int)::s):=⟨_,rfl⟩
          have hYs:(metF met Y.2).length<n+1:=by
           have h1:=Zhc (l:=met) (s:=(k:Int)::s) (s':=Y.2) (fun x hx=>by rw [hY]; exact Zk3 n _ _ _ x hx);have h2:=hn2.out hks;omega
          rw [← hY] at hXd hwk;clear hY hn2 hks hS2 hsp hhd;obtain ⟨b,s'⟩:=Y;replace hXd:=Hold.mk hXd;replace hYs:=Hold.mk hYs;have hi0:(0:Int)<(p.items.length:Int):=by rw [hit]; simp
          have hti:(encC itE p.items).drop ((0:Int).toNat * 3)=iV i1.kind::sV i1.text::iV i1.prio::[]:=by rw [hit]; rfl
          clear hit;cases b with
          | false =>
            (repeat' (first | (refine hlk _ _ (by assumption) ?_) | (refine hup _ _ (by assumption) ?_) | (refine hsg.use ?_) | (refine hwk _ (fun H3 hS3=>?_)) | (simp only [↓Yt,↓Ya,↓Ye,↓ZZ,↓Yb,↓Yv,↓Ys,↓XF,↓ZY,↓ZF,↓Yk,↓YN,↓ZD,↓Jg,↓ZG,↓ZH,↓YX,↓ZJ,↓YY,↓ZI,↓ZP,↓ZU,↓Zv,↓ZR,↓ZE,↓ZV,↓Ym,↓YE,↓ZS,↓Yh,↓Yy,↓s_un,↓ZA,↓ZN,↓Wn,↓WO,↓ZK,↓ZL,↓Zcy,↓Yj,↓Yl,↓Yz,vcNil,ptrV,boolV,Zmd,Zmg,Zm5,ZmO,ite_true,ite_false,Zl9,Zma,ne_eq,not_false_eq_true,true_and,Zmv,Zme,decide_true,ZmK,reduceCtorEq,ZmL,Zmw,ZmM,↓Xc,↓Xg,↓WF,↓Xm,AH.get,eq_self,Zmo,Zmb,and_self,Yq,Jk,WC,Yn,Zcg,YK,WE,XG,Yo,WD,Yp,YG,↓Wy,↓XM,↓JF,Int.reduceLE,YU,Xh,XQ,XZ,Yd,ZdO,YT,Xz,Je,ZhH,Wi,Wb,YA,Xb,Xu,ZcS,ZjA, *]) | (refine Yf mixed (fun _ _ _ _ e h=>⟨e.trans h.1,h.2⟩) _ (SubH.refl _) ?_) | (exact SubH.refl _) | (refine PureF.use (hsv) ?_) | (with_reducible refine And.intro ?_ ?_)))
            ·exact Zkg
            ·exact ⟨i+1,s',by omega,rfl,⟨by have h:=hXd.out; rw [if_neg (by simp)] at h; exact h⟩,⟨hS3⟩,hYs⟩
            ·omega
          | true =>
            (repeat' (first | (refine hlk _ _ (by assumption) ?_) | (refine hup _ _ (by assumption) ?_) | (refine hsg.use ?_) | (refine hwk _ (fun H3 hS3=>?_)) | (simp only [↓Yt,↓Ya,↓Ye,↓ZZ,↓Yb,↓Yv,↓Ys,↓Xe,↓XF,↓ZY,↓ZF,↓Yk,↓YN,↓ZD,↓Xs,↓ZcV,↓ZG,↓ZH,↓YX,↓ZJ,↓YY,↓ZI,↓ZP,↓ZU,↓Zv,↓ZR,↓ZE,↓ZV,↓Ym,↓YE,↓ZS,↓Yh,↓Yy,↓s_un,↓ZA,↓ZN,↓Wn,↓WO,↓ZK,↓ZL,↓Zcy,↓Yj,↓Yl,vcNil,ptrV,boolV,Zmd,Zmg,Zm5,ZmO,ite_true,ite_false,Zl9,Zma,ne_eq,not_false_eq_true,true_and,Zmv,Zme,decide_true,ZmK,reduceCtorEq,ZmL,Zmw,ZmM,↓Xc,↓Xg,↓WF,↓Xm,AH.get,eq_self,Zmo,Zmb,and_self,Yq,Jk,WC,Yn,Zcg,YK,WE,XG,Yo,WD,Yp,YG,↓Wy,↓XM,↓JF,Int.reduceLE,YU,Xh,XQ,XZ,Yd,ZdO,YT,Xz,Je,ZhH,Wi,Wb,YA,Xb,Xu,ZcS,ZjA, *]) | (refine ZC ?_) | (refine Yf mixed (fun _ _ _ _ e h=>⟨e.trans h.1,h.2⟩) _ (SubH.refl _) ?_) | (exact SubH.refl _) | (refine PureF.use (hsv) ?_) | (with_reducible refine And.intro ?_ ?_)))
            ·exact Zkg
            ·exact Hold.use' (P:=fun X H=>OpS Hb rm X.2 H) hK (by have h:=hXd.out; rw [if_pos rfl] at h; exact h) hS3
    ·have hil:¬ (i:Int)<(met.length:Int):=by omega
     obtain rfl:i=met.length:=by omega
     have hXe:=hX.out;rw [List.drop_length,opL] at hXe;replace hXe:=Hold.mk hXe
     (repeat' (first | (simp only [↓Zt,Zu,ptrV,Zma, *]) | (refine YL rfl (fun _ _ _ h=>h) ?_)))
     delta c108_1 Zq
     (repeat' (first | (simp only [↓Zt,Zu,Zl9,Zma, *]) | (refine ZC ?_)))
     exact Hold.use' (P:=fun X H=>OpS Hb rm X.2 H) hK hXe.out hS.out
theorem open_ok {g:List Pd} {l:List Tk} {dn:Sp→List Int} {rc rk:Nat} {Hb H:AH} (hc:FC1 g l dn rc rk Hb) (hd:DOk g l dn) (hs:SubH Hb H) {sym:ByteArray} {least:Int} {s:Sp} {banned:List Int} {bv:VV} (hsp:spOk s) (hb:banned.length≤1000) (hbv:SlR H bv banned.length (encC intE banned)) (hbc:bv.cells=[bv]) (hb1:bv.one=true) :
 ReadF Try.prog 87 [ptrV rc 0,sV sym,iV least,spV s,bv] (boolV (openF g dn sym least s banned)) H:=by
 obtain ⟨vo,hvo,hov⟩:=Zi8 hc hsp;have hdl:=hd.len s;have hfx:=fun H' r9 h h' h9=>fix_ok (l:=dn s) (v:=vo) (bv:=bv) (banned:=banned) (r9:=r9) (H:=H') (by omega) hb (hbv.mono h') hbc (hvo.mono h) h9
 clear hbv;refine Zy fd87 (by simp) ?_;delta c87 Zj Zq Zb Zo Zr Zi Zg Za Zc
 (repeat' (first | (simp only [↓Zt,Zu,ptrV,boolV,Zl9,Zma,Zx,Zmb,JG,undef,YT,ZbE,Zjw, *]) | (refine Zw fun zr zh=>?_; have zg:=zh; (try simp only [AH.set_none] at zg))))
 rename_i z5 n5 n5' z8 n8 n8';have hs1:=((hs.of_set (b:=.cells 93 [ptrV rc 0] 0) (hs.none n5)).of_set (b:=.cells 99 (spE s) 0) (hs.none n8'.2)).of_set (b:=.cells 108 [bv] 0) (hs.none zg.2.2);have h01:=((SubH.new n5 (b:=.cells 93 [ptrV rc 0] 0)).of_set (b:=.cells 99 (spE s) 0) n8'.2).of_set (b:=.cells 108 [bv] 0) zg.2.2
 have x5:((H.set z5 (.cells 93 [ptrV rc 0] 0)).set z8 (.cells 99 (spE s) 0)).set zr (.cells 108 [bv] 0) z5=some (.cells 93 [ptrV rc 0] 0):=by
  rw [AH.set_ne _ _ zg.2.1.2,AH.set_ne _ _ n8'.1.2]; exact AH.set_same _ _ _
 have x9:((H.set z5 (.cells 93 [ptrV rc 0] 0)).set z8 (.cells 99 (spE s) 0)).set zr (.cells 108 [bv] 0) zr=some (.cells 108 [bv] 0):=AH.set_same _ _ _;obtain ⟨H1,hH1⟩:∃ H1,H1=((H.set z5 (.cells 93 [ptrV rc 0] 0)).set z8 (.cells 99 (spE s) 0)).set zr (.cells 108 [bv] 0):=⟨_,rfl⟩
 rw [← hH1] at hs1 h01 x5 x9;show ZO _ _ _ (((H.set z5 (.cells 93 [ptrV rc 0] 0)).set z8 (.cells 99 (spE s) 0)).set zr (.cells 108 [bv] 0)) _;rw [← hH1];clear hH1 n5 n5' n8 n8' zh zg;generalize zr=z9 at *
 have hov1:=hov _ hs1;have hfx1:=hfx _ _ hs1 h01 x9;obtain ⟨met,hmet⟩:∃ met,met=metF (dn s) banned:=⟨_,rfl⟩
 have hml:met.length≤12:=by rw [hmet]; have:=ZaT (dn s) banned; omega
 have hmi:∀ q∈met,0≤q∧q<(g.length:Int):=fun q hq=>hd.in_ s q (by rw [hmet] at hq; exact (List.mem_filter.1 hq).1)
 rw [← hmet] at hfx1;have hfin:openF g dn sym least s banned=(opW g met 13 sym least []).1:=by rw [hmet]; rfl
 replace hmet:=Hold.mk hmet;rw [hfin];clear hov hfx hfin hmet hvo
 (repeat' (first | (refine hov1.use ?_) | (refine Zlm hfx1 ?_) | (simp only [↓Ya,↓Ye,↓ZY,↓ZF,↓ZD,↓ZG,↓ZH,↓YX,↓ZJ,↓YY,↓ZI,↓ZU,↓Zv,↓ZR,↓ZS,↓YR,↓Xn,↓Wm,↓Zd9,↓ZK,↓ZL,↓Zcy,ptrV,Zmd,Zmg,Zmi,Zml,Zmq,Zmr,Zms,Zm5,ZmO,ite_true,ite_false,Zl9,Zma,true_and,Zme,AH.get,AH.set_set,setAt,Zmz,ZmJ,Zmp,eq_self,Zmh,Zmb,Yq,Zkk,Zkl,XR,ZkK,Ws,on_func,Zmn,↓Xo,YP,Zmc,Yn,Yo,Yp,Wf,Wg,Zek,ZhH,ZhG,szT_188,szT_110,ZgT,Zlk,Zll,en_106,Zkg, *]) | (refine Zw fun zr zh=>?_; have zg:=zh; (try simp only [AH.set_none] at zg); (try have zn_x5:=AH.ne_of x5 zh); (try have zn_x5:=AH.ne_of x5 zg.2); (try have zn_x5:=AH.ne_of x5 zg.2.2); (try have zn_x5:=AH.ne_of x5 zg.2.2.2); (try have zn_x5:=AH.ne_of x5 zg.2.2.2.2); (try have zn_x9:=AH.ne_of x9 zh); (try have zn_x9:=AH.ne_of x9 zg.2); (try have zn_x9:=AH.ne_of x9 zg.2.2); (try have zn_x9:=AH.ne_of x9 zg.2.2.2); (try have zn_x9:=AH.ne_of x9 zg.2.2.2.2))))
 rename_i r11 n11 n11' a1 a2 rm nm nm' a3 a4 r12 n12 n12' a5 a6;have gm:H1 rm=none:=nm'.2;have g12:H1 r12=none:=n12'.2.2;have g13:H1 zr=none:=zg.2.2.2;have dm11:=nm'.1;have d12m:=n12'.1;have d1211:=n12'.2.1;have d1312:=zg.1;have d13m:=zg.2.1;have d1311:=zg.2.2.1;obtain ⟨Hx,hHx⟩:∃ Hx,Hx=((H1.set r11 (.cells 108 [intsV met] 0)).set r12 (.cells 188 [mapV rm] 0)).set zr (.cells 110 [opV r11 r12 z5 zr] 0):=⟨_,rfl⟩
 have hbx:SubH H1 Hx:=by rw [hHx]; exact ((SubH.new n11).of_set g12).of_set g13
 have hx:SubH Hx ((((H1.set r11 (.cells 108 [intsV met] 0)).set rm (.map (ZW Try.prog 188) fun _=>none)).set r12 (.cells 188 [mapV rm] 0)).set zr (.cells 110 [opV r11 r12 z5 zr] 0)):=by
  rw [hHx];exact ((SubH.new (by rw [AH.set_ne _ _ dm11.1]; exact gm)).set _ _).set _ _
 have xm:Hx rm=none:=by rw [hHx,AH.set_ne _ _ d13m.2,AH.set_ne _ _ d12m.2,AH.set_ne _ _ dm11.1]; exact gm
 have x11:Hx r11=some (.cells 108 [intsV met] 0):=by rw [hHx,AH.set_ne _ _ d1311.2,AH.set_ne _ _ d1211.2]; exact AH.set_same _ _ _
 have x12:Hx r12=some (.cells 188 [mapV rm] 0):=by rw [hHx,AH.set_ne _ _ d1312.2]; exact AH.set_same _ _ _
 have x13:Hx zr=some (.cells 110 [opV r11 r12 z5 zr] 0):=by rw [hHx]; exact AH.set_same _ _ _
 have hop:OpS Hx rm [] ((((H1.set r11 (.cells 108 [intsV met] 0)).set rm (.map (ZW Try.prog 188) fun _=>none)).set r12 (.cells 188 [mapV rm] 0)).set zr (.cells 110 [opV r11 r12 z5 zr] 0)):=by
  refine ⟨hx,?_⟩;rw [ZlJ,← ZdB,AH.set_ne _ _ d13m.2,AH.set_ne _ _ d12m.2];exact AH.set_same _ _ _
 have hm0:(metF met []).length<13:=by have:=ZaT met []; omega
 refine walk_ok (hc.mono (hs1.trans hbx)) hd hml hmi x11 x12 (hbx _ _ x5) x13 xm 13 sym least [] _ _ hm0 hop (fun H' hH'=>?_);have hH0:=(h01.trans hbx).trans hH'.1;clear hop hx hH'
 (repeat' (first | (simp only [↓Zt,Zu,boolV,Zl9,Zma, *]) | (refine ZC ?_)))
end Go.PV.Ytfkkmdelpddojaa
end
section
set_option maxRecDepth 20000
set_option maxHeartbeats 4000000
namespace Go.PV.Ytfkkmdelpddojaa
open Go Go.Proofs
abbrev yV (l0:Nat):VV:=.lit (.func (.yield l0) #[] #[])
section
variable (g:List Pd) (l:List Tk) (dn:Sp→List Int) (rc rk:Nat) (Hc:AH)
structure Yi (Inv:Option Nat→AH→AH→Prop):Prop where
 kt:∀ k Hb B,Inv k Hb B→Kt g l dn rk Hb B∧SubH Hc Hb∧Hb rk=none
 al:∀ k Hb B z b,Inv k Hb B→B z=none→Inv k (Hb.set z b) (B.set z b)
 del:∀ k Hb B z b,Inv k Hb B→Hb z=some b→Hc z=none→Inv k (Hb.del z) (B.del z)
 weak:∀ k Hb Hb' B,Inv k Hb B→SubH Hc Hb'→SubH Hb' Hb→Inv k Hb' B
 up:∀ k Hb B B',Inv k Hb B→Kt g l dn rk (B.del rk) B'→Inv k Hb B'
def YOk (y:VV) (Inv:Option Nat→AH→AH→Prop) (L:List Tn):Prop :=
 ∀ k (h:k<L.length) Hb B,Inv (some k) Hb B→∀ K':VE→AH→Prop,(∀ B',Inv (some (k+1)) Hb B'→K' (.ret (boolV true)) B')→(∀ B',Inv none Hb B'→K' (.ret (boolV false)) B')→ACall Try.prog none y [tnV L[k]] B K'
end
section
variable {g:List Pd} {l:List Tk} {dn:Sp→List Int} {rc rk:Nat} {Hc:AH} {Inv:Option Nat→AH→AH→Prop}
theorem AH.set_del (H:AH) (z:Nat) (b:Blk):(H.del z).set z b=H.set z b:=by
 funext i; simp only [AH.set,AH.del]; split<;>rfl
theorem AH.del_comm (H:AH) (a b:Nat):(H.del a).del b=(H.del b).del a:=by
 funext i; simp only [AH.del]; split<;>split<;>rfl
theorem AH.del_set_comm (H:AH) {a z:Nat} (h:¬ a=z) (b:Blk):(H.set z b).del a=(H.del a).set z b:=by
 funext i
 simp only [AH.set,AH.del];by_cases e:i=a
 ·subst e; simp [h]
 ·simp [e]
theorem Yi.put (hy:Yi g l dn rk Hc Inv) {k:Option Nat} {Hb B:AH} {z:Nat} {b b':Blk} (h:Inv k Hb B) (hb:Hb z=some b) (hz:Hc z=none):Inv k (Hb.set z b') (B.set z b'):=by
 have h2:=hy.al k _ _ z b' (hy.del k Hb B z b h hb hz) (AH.del_same _ _);rw [AH.set_del,AH.set_del] at h2;exact h2
theorem Yi.sub (hy:Yi g l dn rk Hc Inv) {k:Option Nat} {Hb B:AH} (h:Inv k Hb B):SubH Hb B:=(hy.kt k Hb B h).1.1
theorem Yi.low (hy:Yi g l dn rk Hc Inv) {k:Option Nat} {Hb B:AH} (h:Inv k Hb B):SubH Hc Hb:=(hy.kt k Hb B h).2.1
theorem Yi.fch (hy:Yi g l dn rk Hc Inv) (hc:FCh g l dn rc rk Hc) {k:Option Nat} {Hb B:AH} (h:Inv k Hb B):FCh g l dn rc rk Hb:=hc.mono (hy.low h) (hy.kt k Hb B h).2.2
theorem Wh {H H':AH} {r:Nat} (h:SubH H H') (hr:H r=none):SubH H (H'.del r):=fun i b hi=>by
 rw [AH.del_ne _ (fun e=>by subst e; rw [hr] at hi; cases hi)]; exact h i b hi
theorem ZhX (hd:DOk g l dn) (hc:FCh g l dn rc rk Hc) (hy:Yi g l dn rk Hc Inv) {k:Option Nat} {Hb B:AH} {K:VE→AH→Prop} (h:Inv k Hb B) {r:Rs} (hr:rOk g l r) (hK:∀ B',Inv k Hb B'→K (.ret (boolV (canF g l dn r))) B'):ZO Try.prog 104 [ptrV rc 0,rsVV r] B K:=by
 obtain ⟨⟨hs,m,hm,hkn⟩,hl,ho⟩:=hy.kt k Hb B h;refine can_full hd hr (B.del rk) B K (hc.mono (Wh (hl.trans hs) hc.off) (AH.del_same _ _)) ⟨fun i b hi=>?_,m,hm,hkn⟩ fun B' hk=>hK B' (hy.up k Hb B B' h hk)
 rw [AH.del_get] at hi;split at hi
 ·cases hi
 ·exact hi
def VI (Inv:Option Nat→AH→AH→Prop) (Hy:AH) (l1:Nat) (fn:FuncId) (N:Nat) (T:Nat→VV) (ps:Array Tmp) (sa bd:Code) (r:Nat) (φ:Nat→Nat):Option Nat→AH→AH→Prop
 | some j,Hk,B=>B l1=some (.loop .ready none fn N T ps sa bd r)∧Hk l1=none∧SubH Hy Hk∧Inv (some (φ j)) Hk (B.del l1)
 | none,Hk,B=>B l1=some (.loop .done (some .ret) fn N T ps sa bd r)∧Hk l1=none∧SubH Hy Hk∧Inv none Hk (B.del l1)
theorem VI.yi {Hy:AH} (hy:Yi g l dn rk Hc Inv) (hcy:SubH Hc Hy) {l1:Nat} {fn:FuncId} {N:Nat} {T:Nat→VV} {ps:Array Tmp} {sa bd:Code} {r:Nat} {φ:Nat→Nat}:Yi g l dn rk Hy (VI Inv Hy l1 fn N T ps sa bd r φ):=by
 have key:∀ k Hk B,VI Inv Hy l1 fn N T ps sa bd r φ k Hk B→∃ k' bl,B l1=some bl∧(∀ B',B' l1=some bl→∀ Hk',Hk' l1=none→SubH Hy Hk'→Inv k' Hk' (B'.del l1)→VI Inv Hy l1 fn N T ps sa bd r φ k Hk' B')∧Hk l1=none∧SubH Hy Hk∧Inv k' Hk (B.del l1):=fun k Hk B=>by
  cases k with
  | some j=>exact fun h=>⟨some (φ j),_,h.1,fun B' h1 Hk' h2 h3 h4=>⟨h1,h2,h3,h4⟩,h.2⟩
  | none=>exact fun h=>⟨none,_,h.1,fun B' h1 Hk' h2 h3 h4=>⟨h1,h2,h3,h4⟩,h.2⟩
 refine ⟨fun k Hk B h=>?_,fun k Hk B z b h hz=>?_,fun k Hk B z b h hz hz0=>?_,fun k Hk Hk' B h g1 g2=>?_,fun k Hk B B' h hk=>?_⟩<;>obtain ⟨k',bl,h1,h2,h4,h6,h5⟩:=key k Hk B h
 ·obtain ⟨a,b,c⟩:=hy.kt _ _ _ h5;refine ⟨a.mono fun i b hi=>?_,h6,c⟩;rw [AH.del_get] at hi;split at hi
  ·cases hi
  ·exact hi
 ·have hne:¬ l1=z:=fun e=>by subst e; rw [h1] at hz; cases hz
  have hz':(B.del l1) z=none:=by rw [AH.del_ne _ (fun e=>hne e.symm)]; exact hz
  refine h2 _ ((AH.set_ne _ _ hne).trans h1) _ ((AH.set_ne _ _ hne).trans h4) (h6.of_set (h6.none ((hy.sub h5).none hz'))) ?_;rw [AH.del_set_comm _ hne];exact hy.al _ _ _ _ _ h5 hz'
 ·have hne:¬ l1=z:=fun e=>by subst e; rw [h4] at hz; cases hz
  refine h2 _ ((AH.del_ne _ hne).trans h1) _ ((AH.del_ne _ hne).trans h4) (Wh h6 hz0) ?_;rw [AH.del_comm];exact hy.del _ _ _ _ _ h5 hz (hcy.none hz0)
 ·refine h2 _ h1 _ ?_ g1 (hy.weak _ _ _ _ h5 (hcy.trans g1) g2);cases e:Hk' l1 with
  | none=>rfl
  | some b=>have:=g2 _ _ e; rw [h4] at this; cases this
 ·obtain ⟨a,m,hm,hkn⟩:=hk;obtain ⟨⟨_,m0,hm0,_⟩,_,_⟩:=hy.kt _ _ _ h5;have hne:¬ l1=rk:=fun e=>by subst e; rw [AH.del_same] at hm0; cases hm0
  refine h2 _ (a _ _ ((AH.del_ne _ hne).trans h1)) _ h4 h6 (hy.up _ _ _ _ h5 ⟨fun i b hi=>?_,m,(AH.del_ne _ (fun e=>hne e.symm)).trans hm,hkn⟩);rw [AH.del_comm,AH.del_get] at hi;split at hi
  ·cases hi
  ·rename_i hne2;rw [AH.del_ne _ hne2];exact a _ _ hi
theorem VI.enter {Hy:AH} (hy:Yi g l dn rk Hc Inv) {l1:Nat} {fn:FuncId} {N:Nat} {T:Nat→VV} {ps:Array Tmp} {sa bd:Code} {r:Nat} {φ:Nat→Nat} {j:Nat} {Hk B:AH} (h:VI Inv Hy l1 fn N T ps sa bd r φ (some j) Hk B) {z:Nat} (hz:B z=none) (b b1:Blk) :
 Inv (some (φ j)) ((Hk.set z b).set l1 b1) ((B.set z b).set l1 b1)∧SubH Hk ((Hk.set z b).set l1 b1)∧((Hk.set z b).set l1 b1) z=some b∧¬ l1=z:=by
 obtain ⟨h1,h2,h3,h4⟩:=h;have hne:¬ l1=z:=fun e=>by subst e; rw [h1] at hz; cases hz
 have hz':(B.del l1) z=none:=by rw [AH.del_ne _ (fun e=>hne e.symm)]; exact hz
 have hi:=hy.al _ _ _ l1 b1 (hy.al _ _ _ z b h4 hz') (by rw [AH.set_ne _ _ hne]; exact AH.del_same _ _)
 have e:((B.del l1).set z b).set l1 b1=(B.set z b).set l1 b1:=by
  rw [← AH.del_set_comm _ hne,AH.set_del]
 rw [e] at hi;exact ⟨hi,(SubH.new ((hy.sub h4).none hz')).of_set h2,by rw [AH.set_ne _ _ (fun e=>hne e.symm)]; exact AH.set_same _ _ _,hne⟩
theorem VI.back {Hy:AH} (hy:Yi g l dn rk Hc Inv) (hcy:SubH Hc Hy) {l1:Nat} {k:Option Nat} {Hk Hx Hb' B':AH} {b1:Blk} (h2:Hk l1=none) (h3:SubH Hy Hk) (hx:SubH Hk Hx) (hxl:Hx l1=some b1) (hs:SubH Hx Hb') (hI:Inv k Hb' B') (b2:Blk):Inv k Hk ((B'.set l1 b2).del l1):=by
 have e:(B'.set l1 b2).del l1=B'.del l1:=by funext i; simp only [AH.set,AH.del]; split<;>rfl
 rw [e];have hcl:Hc l1=none:=(hcy.trans h3).none h2;exact hy.weak _ _ _ _ (hy.del _ _ _ _ _ hI (hs _ _ hxl) hcl) (hcy.trans h3) (Wh (hx.trans hs) h2)
end
end Go.PV.Ytfkkmdelpddojaa
end
section
open List renaming take_of_length_le→ZmQ,drop_zero→Zm4,nil_append→ZmO
open Nat renaming le_refl→Zmc,reduceEqDiff→Zl9,reduceLT→Zma,reduceMul→Zm8,reduceAdd→Zmj,reduceLeDiff→Zmu,zero_add→Zmh
open Option renaming map_none→Zna,map_some→Zm1
set_option maxRecDepth 20000
set_option maxHeartbeats 4000000
namespace Go.PV.Ytfkkmdelpddojaa
open Go Go.Proofs
theorem Zf1 {α:Type} {enc:α→List VV} (h:∀ a,(enc a).all VV.one=true) (l:List α):(encC enc l).all VV.one=true:=by
 induction l with
 | nil=>rfl
 | cons x l ih=>rw [Yg]; simp [ih,h x]
theorem ZhY {α:Type} {enc:α→List VV} {k:Nat} (h:∀ a,(enc a).length=k) (H:AH) (ex:Bool) (l:List α):srcV H k (.slice ex l.length (encC enc l))=some (l.length,encC enc l):=by
 have e:=YO h l;simp only [srcV,e,Zmc,if_true];rw [ZmQ (by omega)]
theorem clipInt (n:Nat) (cs:List VV):PureF Try.prog 86 [.slice false n cs] (.slice true n cs):=by
 intro H;refine Zy fd86 (by simp) ?_;delta c86 Zq Za Ze Zr Zc
 (repeat' (first | (simp only [↓Zt,Zu,intV,Zl9,Zma,Zm4,reduceCtorEq,Zx,forall_const,undef,Xx,Zna,Zm1,Jc,idxV,idxOk,Nat.sub_zero,YA, *]) | (refine ZC ?_) | (with_reducible refine And.intro ?_ ?_)))
 ·omega
 ·simp
theorem Zjb (n:Nat) (cs:List VV):PureF Try.prog 105 [.slice false n cs] (.slice true n cs):=by
 intro H;refine Zy fd105 (by simp) ?_;delta c105 Zq Za Ze Zr Zc
 (repeat' (first | (simp only [↓Zt,Zu,intV,Zl9,Zma,Zm8,Zm4,reduceCtorEq,Zx,forall_const,undef,Xx,Zna,Zm1,Jc,idxV,idxOk,Nat.sub_zero,Xt, *]) | (refine ZC ?_) | (with_reducible refine And.intro ?_ ?_)))
 ·omega
 ·simp
theorem tn_one (e:Tn):(tnE e).all VV.one=true:=by rw [ZcA]; rfl
theorem ZlK {l:List Tn} (hl:l.length≤1099511627776):PureF Try.prog 103 [tnsV l] (tnsV l):=by
 refine ZaK.pure fun H=>?_
 refine Zy fd103 (by simp) ?_;delta c103 Zq Za Zr Zl Zc
 (repeat' (first | (simp only [↓Zt,Zu,Zma,reduceCtorEq,Zx,undef, *])))
 refine eq_nil und_26 fun b hb=>?_
 by_cases hne:0<l.length
 ·have hb:=hb hne;subst hb
  (repeat' (first | (simp only [↓Zt,Zu,boolV,Zl9,Zma,Zmj,Zm8,Zmu,reduceCtorEq,fillV,ZB,ZB,Xt,XE, *])))
  refine WP Xt XE rfl (by omega) rfl (ZhY (enc:=tnE) (k:=3) ZcB H false l) (Zf1 tn_one l) (by omega) (by omega) (fun h=>by omega) (fun _ v' H' ho=>?_)
  (repeat' (first | (simp only [↓Zt,Zu,Zl9,Zma, *]) | (refine ZC ?_)))
  refine ⟨_,rfl,?_⟩;have h2:=GhV.own ho;rw [Zmh,ZmO] at h2;exact h2
 ·obtain rfl:l=[]:=List.length_eq_zero_iff.1 (by omega)
  (repeat' (first | (simp only [↓Zt,Zu,boolV,Zl9,Zma,Zmj,Zm8,Zmu,reduceCtorEq,fillV,ZB,ZB,Xt,XE, *]) | (refine WN ?_ ?_<;>intro) | (refine ZC ?_)))
  ·exact ⟨_,rfl,GhV.nil H⟩
  ·refine WP Xt XE rfl (by omega) rfl (ZhY (enc:=tnE) (k:=3) ZcB H false []) (Zf1 tn_one _) (by simp) (by simp) (fun _=>?_) (fun h=>absurd rfl h)
   (repeat' (first | (simp only [↓Zt,Zu,Zl9,Zma, *]) | (refine ZC ?_)))
   exact ⟨_,rfl,GhV.imm H⟩
end Go.PV.Ytfkkmdelpddojaa
end
section
open List renaming mem_cons_self→ZmR,mem_cons_of_mem→ZmN,drop_zero→Zm4
open Nat renaming reduceEqDiff→Zl9,reduceLT→Zma
open Option renaming map_some→Zm1
set_option maxRecDepth 20000
set_option maxHeartbeats 4000000
namespace Go.PV.Ytfkkmdelpddojaa
open Go Go.Proofs
section
variable {g:List Pd} {l:List Tk} {dn:Sp→List Int} {rc rk:Nat} {Hc:AH}
theorem Zen {Inv:Option Nat→AH→AH→Prop} (hy:Yi g l dn rk Hc Inv) {k:Option Nat} {rv:List ResultVar} {H0:AH} {x:VV} {K:VE→AH→Prop} {t:Nat→VV} (hc0:SubH Hc H0)
 {P:AH→Prop} (hP:∀ Hb z,P Hb→Hb z=some (.obj (.deferred (some [])))→H0 z=none→P (Hb.del z)) (hres:∀ Hb B,Inv k Hb B→P Hb→resV Try.prog rv ⟨t,[]⟩ B=some x) (hK:∀ Hb' B',Inv k Hb' B'→SubH H0 Hb'→K (.ret x) B') :
 ∀ (rs:List Nat) (Hb B:AH),Inv k Hb B→P Hb→SubH H0 Hb→rs.Nodup→(∀ r∈rs,Hb r=some (.obj (.deferred (some [])))∧H0 r=none)→WB Try.prog rv K t (rs.map WL) .returning B
 | [],Hb,B,hI,hp,hs,_,_=>⟨x,B,x,hres _ _ hI hp,GhV.refl _ _,hK _ _ hI hs⟩
 | r::rs,Hb,B,hI,hp,hs,hn,hr=>by
   obtain ⟨h1,h2⟩:=hr r (ZmR ..)
   have hcr:Hc r=none:=by
    cases e:Hc r with
    | none=>rfl
    | some b=>have:=hc0 _ _ e; rw [h2] at this; cases this
   refine ⟨by simp,hy.sub hI _ _ h1,?_⟩;refine Zen hy hc0 hP hres hK rs (Hb.del r) (B.del r) (hy.del _ _ _ _ _ hI h1 hcr) (hP _ _ hp h1 h2) (Wh hs h2) (List.nodup_cons.1 hn).2 fun r' h'=>?_
   obtain ⟨h3,h4⟩:=hr r' (ZmN _ h');refine ⟨?_,h4⟩;rw [AH.del_ne _ (fun e=>(List.nodup_cons.1 hn).1 (by rw [← e]; exact h'))];exact h3
theorem XS {Inv:Option Nat→AH→AH→Prop} (hy:Yi g l dn rk Hc Inv) {k:Option Nat} {H0:AH} {b:Bool} {K:VE→AH→Prop} {t:Nat→VV} {r12:Nat} (hc0:SubH Hc H0) (t12:t 12=ptrV r12 0) (hK:∀ Hb' B',Inv k Hb' B'→SubH H0 Hb'→K (.ret (boolV b)) B')
 (rs:List Nat) (Hb B:AH) (hI:Inv k Hb B) (x12:Hb r12=some (.cells 4 [boolV b] 0)) (hs:SubH H0 Hb) (hn:rs.Nodup) (hr:∀ r∈rs,Hb r=some (.obj (.deferred (some [])))∧H0 r=none):WB Try.prog [.cell 12 4] K t (rs.map WL) .returning B:=by
 refine Zen hy (x:=boolV b) hc0 (P:=fun Hb=>Hb r12=some (.cells 4 [boolV b] 0)) (fun Hb z hp hz _=>?_) (fun Hb B hI hp=>?_) hK rs Hb B hI x12 hs hn hr
 ·have hne:¬ r12=z:=fun e=>by subst e; rw [hp] at hz; cases hz
  exact (AH.del_ne _ hne).trans hp
 ·have hb:=hy.sub hI _ _ hp;simp only [resV,Zal,Zak,t12,ZlY,ptrV,hb,Zm4,Zm1];rfl
theorem Zc5 {Inv:Option Nat→AH→AH→Prop} (hy:Yi g l dn rk Hc Inv) {k:Option Nat} {H0:AH} {K:VE→AH→Prop} {t:Nat→VV} (hc0:SubH Hc H0) (hK:∀ Hb' B' u,Inv k Hb' B'→SubH H0 Hb'→K (.ret u) B')
 (rs:List Nat) (Hb B:AH) (hI:Inv k Hb B) (hs:SubH H0 Hb) (hn:rs.Nodup) (hr:∀ r∈rs,Hb r=some (.obj (.deferred (some [])))∧H0 r=none):WB Try.prog [] K t (rs.map WL) .returning B :=
 Zen hy hc0 (P:=fun _=>True) (fun _ _ _ _ _=>trivial) (fun Hb B hI hp=>rfl) (fun Hb B h h'=>hK Hb B _ h h') rs Hb B hI trivial hs hn hr
def ZaU (g:List Pd) (l:List Tk) (dn:Sp→List Int) (rc rk:Nat) (Hc:AH) (T:ByteArray→Int→Nat→Nat→List Tn) (q dot f t:Nat):Prop :=
 ∀ (kids:List Tn) (Inv:Option Nat→AH→AH→Prop) (L:List Tn) (l0:Nat),Yi g l dn rk Hc Inv→YOk (yV l0) Inv L→kids.length≤dot →
   ∀ (k:Nat) (M:List Tn) (Hb B:AH) (K:VE→AH→Prop),L.drop k=(itsG l (hasF g dn) T ((pdAt g q).items.drop dot) f t).map (fun ks=>Tn.mk q 0 (kids++ks))++M→Inv (some k) Hb B →
     (∀ Hb' B',Inv (some (k+(itsG l (hasF g dn) T ((pdAt g q).items.drop dot) f t).length)) Hb' B'→SubH Hb Hb'→K (.ret (boolV true)) B')→(∀ Hb' B',Inv none Hb' B'→SubH Hb Hb'→K (.ret (boolV false)) B') →
     ZO Try.prog 85 [ptrV rc 0,iV q,iV dot,spV (f,t),tnsV kids,yV l0] B K
def Zd1 (g:List Pd) (l:List Tk) (dn:Sp→List Int) (rc rk:Nat) (Hc:AH) (X:List Tn) (sym:ByteArray) (least:Int) (f t:Nat) (banned:List Int):Prop :=
 ∀ (Inv:Option Nat→AH→AH→Prop) (L:List Tn) (l0:Nat),Yi g l dn rk Hc Inv→YOk (yV l0) Inv L →
   ∀ (k:Nat) (M:List Tn) (Hb B:AH) (K:VE→AH→Prop) (r1 r2 r3 r4 r5:Nat),L.drop k=X++M→Inv (some k) Hb B →
     Hb r1=some (.cells 93 [ptrV rc 0] 0)→Hb r2=some (.cells 99 (spE (f,t)) 0)→Hb r3=some (.cells 9 [sV sym] 0)→Hb r4=some (.cells 3 [iV least] 0)→Hb r5=some (.cells 108 [intsV banned] 0) →
     (∀ Hb' B' u,Inv (some (k+X.length)) Hb' B'→SubH Hb Hb'→K (.ret u) B')→(∀ Hb' B' u,Inv none Hb' B'→SubH Hb Hb'→K (.ret u) B') →
     ZO Try.prog 82 [yV l0,ptrV r1 0,ptrV r2 0,ptrV r3 0,ptrV r4 0,ptrV r5 0] B K
structure ItA (Inv:Option Nat→AH→AH→Prop) (Hb:AH) (q dot f t:Nat) (kids:List Tn) (l0 rc:Nat) (r6 r7 r8 r9 r10 r11 r12:Nat) (A:AF) (Hx:AH):Prop where
 t6:A.t 6=ptrV r6 0
 t7:A.t 7=ptrV r7 0
 t8:A.t 8=ptrV r8 0
 t9:A.t 9=ptrV r9 0
 t10:A.t 10=ptrV r10 0
 t11:A.t 11=ptrV r11 0
 t12:A.t 12=ptrV r12 0
 x6:Hx r6=some (.cells 93 [ptrV rc 0] 0)
 x7:Hx r7=some (.cells 3 [iV q] 0)
 x8:Hx r8=some (.cells 3 [iV dot] 0)
 x9:Hx r9=some (.cells 99 (spE (f,t)) 0)
 x10:Hx r10=some (.cells 26 [tnsV kids] 0)
 x11:Hx r11=some (.cells 75 [yV l0] 0)
 sub:SubH Hb Hx
 n12:Hb r12=none
 c12:Hx r12=some (.cells 4 [boolV false] 0)
def tailS:ACode→ACode
 | .seq _ b=>b
 | .seqL _ b=>b
 | x=>x
def headS:ACode→ACode
 | .seq a _=>a
 | .seqL a _=>a
 | x=>x
noncomputable def cI1:ACode:=tailS c85
noncomputable def cI2:ACode:=tailS cI1
noncomputable def cI3:ACode:=tailS cI2
noncomputable def cI4:ACode:=tailS cI3
def retN (rv:List ResultVar) (K:VE→AH→Prop):APost
 | .normal=>fun A H=>WB Try.prog rv K A.t A.d .returning H
 | .ret=>fun A H=>WB Try.prog rv K A.t A.d .returning H
 | _=>fun _ _=>False
theorem Zkw {rv:List ResultVar} {K:VE→AH→Prop} (e:Exit) (A:AF) (H:AH) (h:retN rv K e A H):ZiW Try.prog rv K e A H:=by
 cases e<;>first
  | exact h
  | exact False.elim h
noncomputable abbrev itQ (K:VE→AH→Prop):APost:=retN [.cell 12 4] K
noncomputable abbrev itX:Cx:=⟨Try.prog,139,none⟩
theorem Zjc {q dot f t:Nat} {kids:List Tn} {Inv:Option Nat→AH→AH→Prop} {l0:Nat} (hy:Yi g l dn rk Hc Inv) {k:Option Nat} {Hb B:AH} {K:VE→AH→Prop} (hI:Inv k Hb B)
 (h:∀ (A:AF) (Hx Bx:AH) (r6 r7 r8 r9 r10 r11 r12:Nat),A.d=[]→Inv k Hx Bx→ItA Inv Hb q dot f t kids l0 rc r6 r7 r8 r9 r10 r11 r12 A Hx→ACx itX cI1 (itQ K) A Bx) :
 ZO Try.prog 85 [ptrV rc 0,iV q,iV dot,spV (f,t),tnsV kids,yV l0] B K:=by
 refine Ju fd85 (by simp) ?_;refine Zbg (Q:=itQ K) ?_ Zkw;refine JX (Q:=itQ K) (l:=[headS c85]) (b:=cI1) (K:=fun A Bx=>∃ Hx r6 r7 r8 r9 r10 r11 r12,A.d=[]∧Inv k Hx Bx∧ItA Inv Hb q dot f t kids l0 rc r6 r7 r8 r9 r10 r11 r12 A Hx) (fun _ _ _ h=>h) ?_ _ _ ?_
 ·rintro A Bx ⟨Hx,r6,r7,r8,r9,r10,r11,r12,hd,hi,ha⟩;exact h A Hx Bx r6 r7 r8 r9 r10 r11 r12 hd hi ha
 ·clear h;dsimp only [itX,vcs,headS,c85,Zj,Zi,Zb,Zq,Zr,Zd,Zk,Zc,Za,Ze,Zn,Zp,Zg,Zo,Zm,Zl];replace hI:=Hold.mk hI
  (repeat' (first | (simp only [↓Zt,Zu,ptrV,Zl9,Zma,Zx,cl_fn,undef,ZkE, *]) | (refine Zw fun zr zh=>?_; have zg:=zh; (try simp only [AH.set_none] at zg))))
  rename_i r6 n6 g6 r7 n7 g7 r8 n8 g8 r9 n9 g9 r10 n10 g10 r11 n11 g11;have hs:=hy.sub hI.out;have hi:=hy.al _ _ _ zr (.cells 4 [boolV false] 0) (hy.al _ _ _ r11 (.cells 75 [yV l0] 0) (hy.al _ _ _ r10 (.cells 26 [tnsV kids] 0) (hy.al _ _ _ r9 (.cells 99 (spE (f,t)) 0) (hy.al _ _ _ r8 (.cells 3 [iV dot] 0) (hy.al _ _ _ r7 (.cells 3 [iV q] 0) (hy.al _ _ _ r6 (.cells 93 [ptrV rc 0] 0) hI.out n6) n7) n8) n9) n10) n11) zh;refine ⟨_,r6,r7,r8,r9,r10,r11,zr,hi,⟨(by simp only [Zv,Zl9,if_true,if_false, *]<;>rfl),(by simp only [Zv,Zl9,if_true,if_false, *]<;>rfl),(by simp only [Zv,Zl9,if_true,if_false, *]<;>rfl),(by simp only [Zv,Zl9,if_true,if_false, *]<;>rfl),(by simp only [Zv,Zl9,if_true,if_false, *]<;>rfl),(by simp only [Zv,Zl9,if_true,if_false, *]<;>rfl),(by simp only [Zv,Zl9,if_true,if_false, *]<;>rfl),(by simp only [AH.get, *,if_true,if_false]<;>rfl),(by simp only [AH.get, *,if_true,if_false]<;>rfl),(by simp only [AH.get, *,if_true,if_false]<;>rfl),(by simp only [AH.get, *,if_true,if_false]<;>rfl),(by simp only [AH.get, *,if_true,if_false]<;>rfl),(by simp only [AH.get, *,if_true,if_false]<;>rfl),?_,hs.none zg.2.2.2.2.2.2,AH.set_same _ _ _⟩⟩;exact ((((((SubH.new (hs.none n6)).of_set (hs.none g7.2)).of_set (hs.none g8.2.2)).of_set (hs.none g9.2.2.2)).of_set (hs.none g10.2.2.2.2)).of_set (hs.none g11.2.2.2.2.2)).of_set (hs.none zg.2.2.2.2.2.2)
end
end Go.PV.Ytfkkmdelpddojaa
end
section
open Bool renaming not_true→ZmK,not_false→ZmG,and_self→Zmp
open Int renaming natCast_nonneg→ZmL,toNat_natCast→Zmw,reduceNeg→Zm3
open List renaming drop_eq_nil_of_le→Znb,drop_eq_getElem_cons→ZmY,drop→Zmb,map_cons→Zmd,map_nil→Zmg,length_cons→Zmi,length_nil→Zml,getElem?_cons_zero→ZmC,getElem?_cons_succ→ZmD,set_cons_zero→Zmn,set_cons_succ→Zmy,nodup_nil→Zm0,all_cons→Zmz,all_nil→ZmJ
open Nat renaming lt_or_ge→ZmI,reduceEqDiff→Zl9,reduceLT→Zma,succ_ne_self→Zme,add_zero→Zmo,reduceAdd→Zmj,reduceLeDiff→Zmu,zero_add→Zmh,le_refl→Zmc
set_option maxRecDepth 20000
set_option maxHeartbeats 4000000
namespace Go.PV.Ytfkkmdelpddojaa
open Go Go.Proofs
section
variable {g:List Pd} {l:List Tk} {dn:Sp→List Int} {rc rk:Nat} {Hc:AH} {Inv:Option Nat→AH→AH→Prop} {q dot f t l0 r6 r7 r8 r9 r10 r11 r12:Nat} {kids:List Tn} {Hb Hx Bx:AH} {K:VE→AH→Prop}
theorem Zk4 {α:Type} {L M:List α} {x:α} {k:Nat} (h:L.drop k=x::M):∃ h:k<L.length,L[k]=x:=by
 have hk:k<L.length:=by
  rcases ZmI k L.length with h' | h'
  ·exact h'
  ·rw [Znb h'] at h; cases h
 refine ⟨hk,?_⟩;rw [ZmY hk] at h;exact (List.cons.inj h).1
theorem ItA.congr {A A':AF} (h:ItA Inv Hb q dot f t kids l0 rc r6 r7 r8 r9 r10 r11 r12 A Hx) (he:∀ i,i<13→A'.t i=A.t i):ItA Inv Hb q dot f t kids l0 rc r6 r7 r8 r9 r10 r11 r12 A' Hx :=
 ⟨(he 6 (by omega)).trans h.t6,(he 7 (by omega)).trans h.t7,(he 8 (by omega)).trans h.t8,(he 9 (by omega)).trans h.t9,(he 10 (by omega)).trans h.t10,(he 11 (by omega)).trans h.t11,(he 12 (by omega)).trans h.t12,h.x6,h.x7,h.x8,h.x9,h.x10,h.x11,h.sub,h.n12,h.c12⟩
theorem Zk5 (hc:FCh g l dn rc rk Hc) (hd:DOk g l dn) (hy:Yi g l dn rk Hc Inv) (hq:q<g.length) {k:Option Nat} {A:AF} (hA:A.d=[]) (hI:Inv k Hx Bx) (ha:ItA Inv Hb q dot f t kids l0 rc r6 r7 r8 r9 r10 r11 r12 A Hx)
 (h:∀ A':AF,A'.d=[]→ItA Inv Hb q dot f t kids l0 rc r6 r7 r8 r9 r10 r11 r12 A' Hx→A'.t 13=itsV (pdAt g q).items→ACx itX cI2 (itQ K) A' Bx):ACx itX cI1 (itQ K) A Bx:=by
 refine JX (Q:=itQ K) (l:=[headS cI1]) (b:=cI2) (K:=fun A' H'=>H'=Bx∧A'.d=[]∧(∀ i,i<13→A'.t i=A.t i)∧A'.t 13=itsV (pdAt g q).items) (fun _ _ _ h=>h) ?_ _ _ ?_
 ·rintro A' H' ⟨rfl,h1,h2,h3⟩;exact h A' h1 (ha.congr h2) h3
 ·clear h;dsimp only [itX,vcs,headS,cI1,tailS,c85,Zj,Zi,Zb,Zq,Zr,Zd,Zk,Zc,Za,Ze,Zn,Zp,Zg,Zo,Zm,Zl];obtain ⟨⟨rs,rd,vd,hc1,_,_⟩,_⟩:=id hc;have hs:=hy.sub hI;have qc:=hs _ _ (hy.low hI _ _ hc1);have q6:=hs _ _ ha.x6;have q7:=hs _ _ ha.x7;have hgl:=hd.gok.len;have hdi:=WG hq;have hqi:(q:Int)<(g.length:Int):=by omega
  rw [Xa hq];generalize g[q]=p at *
  obtain ⟨u,d⟩:=A;obtain ⟨t6,t7,t8,t9,t10,t11,t12,_,_,_,_,_,_,_,_,_⟩:=ha;dsimp only at hA t6 t7 t8 t9 t10 t11 t12;subst hA;clear hc hI
  (repeat' (first | (refine Yf mixed (fun _ _ _ _ _ h=>False.elim h) _ (SubH.refl _) ?_) | (simp only [↓ZY,↓ZF,↓ZD,↓ZG,↓ZH,↓ZJ,↓ZI,↓Zv,↓ZE,↓ZS,↓Yh,↓ZA,↓ZN,vcNil,ptrV,ite_true,ite_false,Zl9,Zma,ne_eq,not_false_eq_true,true_and,and_true,Zme,ZmL,Zmw,↓Xc,↓Xg,eq_self,Zmo,Zmb,and_self,Yq,WC,Yn,Zcg,YK,WE,XG,Yo,WD,Yp,YG,↓Wy,YU,Xh,Yd,YT,Xz,Wi,Xb, *])))
  intro i hi
  repeat rw [if_neg (by omega)]
theorem items_2a (hd:DOk g l dn) (hy:Yi g l dn rk Hc Inv) (hq:q<g.length) (hlt:dot<(pdAt g q).items.length) {k:Option Nat} {A:AF} (hA:A.d=[]) (hI:Inv k Hx Bx) (ha:ItA Inv Hb q dot f t kids l0 rc r6 r7 r8 r9 r10 r11 r12 A Hx) (t13:A.t 13=itsV (pdAt g q).items)
 (h:∀ A':AF,A'.d=[]→ItA Inv Hb q dot f t kids l0 rc r6 r7 r8 r9 r10 r11 r12 A' Hx→A'.t 13=itsV (pdAt g q).items→ACx itX cI3 (itQ K) A' Bx):ACx itX cI2 (itQ K) A Bx:=by
 refine JX (Q:=itQ K) (l:=[headS cI2]) (b:=cI3) (K:=fun A' H'=>H'=Bx∧A'.d=[]∧(∀ i,i<14→A'.t i=A.t i)) (fun _ _ _ h=>h) ?_ _ _ ?_
 ·rintro A' H' ⟨rfl,h1,h2⟩;exact h A' h1 (ha.congr fun i hi=>h2 i (by omega)) ((h2 13 (by omega)).trans t13)
 ·clear h;dsimp only [itX,vcs,headS,cI2,cI1,tailS,c85,Zj,Zi,Zb,Zq,Zr,Zd,Zk,Zc,Za,Ze,Zn,Zp,Zg,Zo,Zm,Zl];have hs:=hy.sub hI;have q8:=hs _ _ ha.x8;have hil:=WK hd.gok hq;generalize pdAt g q=p at *
  have hne:¬ (dot:Int)=(p.items.length:Int):=by omega
  obtain ⟨u,d⟩:=A;obtain ⟨t6,t7,t8,t9,t10,t11,t12,_,_,_,_,_,_,_,_,_⟩:=ha;dsimp only at hA t6 t7 t8 t9 t10 t11 t12 t13;subst hA;clear hI
  (repeat' (first | (simp only [↓Zt,Zu,ptrV,intV,Zl9,Zma,reduceCtorEq,Zmb,Yd,Xu, *])))
  all_goals intro i hi
  all_goals repeat rw [if_neg (by omega)]
theorem Zjd (hd:DOk g l dn) (hy:Yi g l dn rk Hc Inv) (hq:q<g.length) (hlt:dot=(pdAt g q).items.length) (hkd:kids.length≤dot) (hcb:SubH Hc Hb) {L M:List Tn} (hyo:YOk (yV l0) Inv L) {k:Nat} {A:AF} (hA:A.d=[]) (hI:Inv (some k) Hx Bx) (ha:ItA Inv Hb q dot f t kids l0 rc r6 r7 r8 r9 r10 r11 r12 A Hx) (t13:A.t 13=itsV (pdAt g q).items)
 (hL:L.drop k=(if f=t then [Tn.mk q 0 kids] else [])++M)
 (hT:∀ Hb' B',Inv (some (k+if f=t then 1 else 0)) Hb' B'→SubH Hb Hb'→K (.ret (boolV true)) B') (hF:∀ Hb' B',Inv none Hb' B'→SubH Hb Hb'→K (.ret (boolV false)) B'):ACx itX cI2 (itQ K) A Bx:=by
 dsimp only [itX,cI2,cI1,tailS,c85,Zj,Zi,Zb,Zq,Zr,Zd,Zk,Zc,Za,Ze,Zn,Zp,Zg,Zo,Zm,Zl];have hs:=hy.sub hI;have q7:=hs _ _ ha.x7;have q8:=hs _ _ ha.x8;have q9:=hs _ _ ha.x9;have q10:=hs _ _ ha.x10;have q11:=hs _ _ ha.x11;have x12:=ha.c12;have q12:=hs _ _ x12;have hil:=WK hd.gok hq;have hcl:=ZlK (l:=kids) (by omega);generalize pdAt g q=p at *
 have hne:(dot:Int)=(p.items.length:Int):=by omega
 have hcn:Hc r12=none:=hcb.none ha.n12;have hsub:=ha.sub;have n12:=ha.n12;obtain ⟨u,d⟩:=A;obtain ⟨t6,t7,t8,t9,t10,t11,t12,x6,x7,x8,x9,x10,x11,_,_,_⟩:=ha;dsimp only at hA t6 t7 t8 t9 t10 t11 t12 t13;subst hA;have hyl:∀ B xs (K':VE→AH→Prop),WS Try.prog none (.lit (.func (.yield l0) #[] #[])) xs B K'=ACall Try.prog none (yV l0) xs B K':=fun _ _ _=>rfl
 replace hT:=Hold.mk hT;replace hF:=Hold.mk hF;refine YL rfl (fun _ _ _ h=>h) ?_;by_cases hft:f=t
 ·have hfi:(f:Int)=(t:Int):=by omega
  rw [if_pos hft] at hL hT;obtain ⟨hk,hLk⟩:=Zk4 hL;have hyk:=hyo k hk Hx Bx hI;rw [hLk] at hyk;clear hLk;replace hL:=Hold.mk hL;replace hft:=Hold.mk hft;clear hlt
  (repeat' (first | (refine Yf mixed (fun _ _ _ _ _ h=>False.elim h) _ (SubH.refl _) ?_) | (simp only [↓Ya,↓Ye,↓ZZ,↓Yb,↓XF,↓ZY,↓ZF,↓Yk,↓YN,↓ZD,↓ZG,↓ZH,↓ZJ,↓ZI,↓ZU,↓Zv,↓ZR,↓ZS,↓Yy,↓Wp,↓ZA,↓ZX,↓ZK,↓ZL,↓Xk,↓Yr,↓XJ,ptrV,intV,Zmd,Zmg,Zmi,Zml,ite_true,ite_false,Zl9,Zma,Zmj,Zmu,ne_eq,not_false_eq_true,true_and,Zme,decide_true,ZmK,reduceCtorEq,↓Xc,↓Xg,↓WF,↓ZiV,ZT,fillV,setAt,eq_self,Zmh,Zmo,Zmb,and_self,ZmC,ZmD,Yq,XV,XR,Zmn,Zmy,Zmc,Yn,YK,XA,Yo,Yp,YG,↓Wy,↓XM,↓JF,Zm3,ZT,XH,Wl,Yd,ZaH,ZeW,Zke,Xu,en_103, *]) | (exact SubH.refl _) | (refine PureF.use (hcl) ?_) | (with_reducible refine And.intro ?_ ?_)))
  refine hyk _ (fun B' hB=>?_) (fun B' hB=>?_)
  all_goals have q12':=hy.sub hB _ _ x12
  all_goals clear q12 q7 q8 q9 q10 q11 hyk
  all_goals (repeat' (first | (simp only [↓Zt,Zu,ptrV,boolV,Zl9,Zma,setAt,ZaQ,ZaR,Zm3,Zff, *])))
  ·exact XS hy hcb (by assumption) hT.out [] _ _ (hy.put hB x12 hcn) (AH.set_same _ _ _) (hsub.of_set n12) Zm0 (fun _ h=>by cases h)
  ·exact XS hy hcb (by assumption) hF.out [] _ _ (hy.put hB x12 hcn) (AH.set_same _ _ _) (hsub.of_set n12) Zm0 (fun _ h=>by cases h)
 ·have hfi:¬ (f:Int)=(t:Int):=by omega
  rw [if_neg hft] at hL hT;replace hL:=Hold.mk hL;replace hft:=Hold.mk hft;clear hlt
  (repeat' (first | (refine Yf mixed (fun _ _ _ _ _ h=>False.elim h) _ (SubH.refl _) ?_) | (simp only [↓Ya,↓Ye,↓ZZ,↓Yb,↓Xe,↓XF,↓ZY,↓ZF,↓Yk,↓WJ,↓ZD,↓Xs,↓ZG,↓ZH,↓YX,↓ZJ,↓YY,↓ZI,↓ZP,↓ZU,↓Zv,↓ZR,↓ZV,↓Ym,↓YE,↓ZS,↓YR,↓Yy,↓ZA,↓ZX,↓Xk,↓Yr,↓XJ,ptrV,intV,boolV,Zmd,Zmg,Zmi,Zml,ite_true,ite_false,Zl9,Zma,ne_eq,not_false_eq_true,true_and,Zme,decide_true,decide_false,ZmG,reduceCtorEq,Yc,Zx,↓Xc,↓Xg,↓WF,↓ZiV,setAt,Zmz,ZmJ,Zmp,eq_self,Zmh,Zmo,Zmb,Yq,ZaQ,ZaR,Zmn,Zmc,Yn,YK,XA,Yo,Yp,YG,Wf,Wg,↓Wy,↓XM,↓ZcY,undef,Zm3,XH,Wl,Yd,Zff,Xu,en_103, *]) | (exact SubH.refl _) | (with_reducible refine And.intro ?_ ?_)))
  exact XS hy hcb (by assumption) hT.out [] _ _ (hy.put hI x12 hcn) (AH.set_same _ _ _) (hsub.of_set n12) Zm0 (fun _ h=>by cases h)
end
end Go.PV.Ytfkkmdelpddojaa
end
section
open Bool renaming not_true→ZmK,not_false→ZmG,and_self→Zmp
open Int renaming reduceNeg→Zm3,natCast_nonneg→ZmL,toNat_natCast→Zmw
open List renaming map_cons→Zmd,map_nil→Zmg,length_cons→Zmi,length_nil→Zml,drop→Zmb,getElem?_cons_zero→ZmC,getElem?_cons_succ→ZmD,set_cons_zero→Zmn,set_cons_succ→Zmy,all_cons→Zmz,all_nil→ZmJ,nodup_nil→Zm0,length_append→ZmB,append_nil→ZmF,append_assoc→Zm7,replicate_succ→ZmP,replicate_zero→ZmZ,flatten_cons→ZmT,flatten_nil→ZmX
open Nat renaming reduceEqDiff→Zl9,reduceLT→Zma,reduceAdd→Zmj,reduceLeDiff→Zmu,succ_ne_self→Zme,zero_add→Zmh,le_refl→Zmc,add_zero→Zmo,reduceMul→Zm8
set_option maxRecDepth 20000
set_option maxHeartbeats 4000000
namespace Go.PV.Ytfkkmdelpddojaa
open Go Go.Proofs
section
variable {g:List Pd} {l:List Tk} {dn:Sp→List Int} {rc rk:Nat} {Hc:AH} {Inv:Option Nat→AH→AH→Prop} {q dot f t l0 r6 r7 r8 r9 r10 r11 r12:Nat} {kids:List Tn} {Hb Hx Bx:AH} {K:VE→AH→Prop}
theorem items_3a (hc:FCh g l dn rc rk Hc) (hd:DOk g l dn) (hy:Yi g l dn rk Hc Inv) (hr:rOk g l ⟨q,dot,f,t⟩) (hca:canF g l dn ⟨q,dot,f,t⟩=true) {k:Option Nat} {A:AF} (hA:A.d=[]) (hI:Inv k Hx Bx) (ha:ItA Inv Hb q dot f t kids l0 rc r6 r7 r8 r9 r10 r11 r12 A Hx) (t13:A.t 13=itsV (pdAt g q).items)
 (h:∀ (A':AF) (B':AH),A'.d=[]→Inv k Hx B'→ItA Inv Hb q dot f t kids l0 rc r6 r7 r8 r9 r10 r11 r12 A' Hx→A'.t 13=itsV (pdAt g q).items→ACx itX cI4 (itQ K) A' B'):ACx itX cI3 (itQ K) A Bx:=by
 refine JX (Q:=itQ K) (l:=[headS cI3]) (b:=cI4) (K:=fun A' H'=>Inv k Hx H'∧A'.d=[]∧(∀ i,i<14→A'.t i=A.t i)) (fun _ _ _ h=>h) ?_ _ _ ?_
 ·rintro A' H' ⟨h0,h1,h2⟩;exact h A' H' h1 h0 (ha.congr fun i hi=>h2 i (by omega)) ((h2 13 (by omega)).trans t13)
 ·clear h;dsimp only [itX,vcs,headS,cI3,cI2,cI1,tailS,c85,Zj,Zi,Zb,Zq,Zr,Zd,Zk,Zc,Za,Ze,Zn,Zp,Zg,Zo,Zm,Zl];have hs:=hy.sub hI;have q6:=hs _ _ ha.x6;have q7:=hs _ _ ha.x7;have q8:=hs _ _ ha.x8;have q9:=hs _ _ ha.x9;have hcn:=fun K'=>ZhX (K:=K') hd hc hy hI hr
  rw [hca] at hcn;obtain ⟨u,d⟩:=A;obtain ⟨t6,t7,t8,t9,t10,t11,t12,_,_,_,_,_,_,_,_,_⟩:=ha;dsimp only at hA t6 t7 t8 t9 t10 t11 t12 t13;subst hA;clear hI hc hd hr hca
  (repeat' (first | (refine hcn _ (fun B' hB=>?_)) | (simp only [↓Yt,↓Ya,↓Ye,↓ZZ,↓Yv,↓ZY,↓ZF,↓ZD,↓ZG,↓ZH,↓ZJ,↓ZI,↓ZU,↓Zv,↓ZS,↓s_un,↓Wp,↓ZK,↓ZL,↓Yj,ptrV,boolV,Zmd,Zmg,Zmi,Zml,ite_true,ite_false,Zl9,Zma,Zmj,Zmu,true_and,Zme,ZmK,ZT,fillV,setAt,eq_self,Zmh,Zmb,and_self,ZmC,ZmD,Yq,JG,XV,YB,Zmn,Zmy,Zmc,Yn,Yo,Yp,ZT,Yd,YT,ZbE,ZbA,ZbF, *])))
  all_goals intro i hi
  all_goals repeat rw [if_neg (by omega)]
theorem items_3b (hc:FCh g l dn rc rk Hc) (hd:DOk g l dn) (hy:Yi g l dn rk Hc Inv) (hr:rOk g l ⟨q,dot,f,t⟩) (hca:canF g l dn ⟨q,dot,f,t⟩=false) (hcb:SubH Hc Hb) {k:Option Nat} {A:AF} (hA:A.d=[]) (hI:Inv k Hx Bx) (ha:ItA Inv Hb q dot f t kids l0 rc r6 r7 r8 r9 r10 r11 r12 A Hx)
 (hT:∀ Hb' B',Inv k Hb' B'→SubH Hb Hb'→K (.ret (boolV true)) B'):ACx itX cI3 (itQ K) A Bx:=by
 dsimp only [itX,cI3,cI2,cI1,tailS,c85,Zj,Zi,Zb,Zq,Zr,Zd,Zk,Zc,Za,Ze,Zn,Zp,Zg,Zo,Zm,Zl];have hs:=hy.sub hI;have q6:=hs _ _ ha.x6;have q7:=hs _ _ ha.x7;have q8:=hs _ _ ha.x8;have q9:=hs _ _ ha.x9;have x12:=ha.c12;have hcn:=fun (K':VE→AH→Prop) (h:∀ B',Inv k Hx B'→B' r12=some (.cells 4 [boolV false] 0)→K' (.ret (boolV (canF g l dn ⟨q,dot,f,t⟩))) B')=>ZhX (K:=K') hd hc hy hI hr fun B' hB=>h B' hB (hy.sub hB _ _ x12)
 rw [hca] at hcn;have hcz:Hc r12=none:=hcb.none ha.n12;have hsub:=ha.sub;have n12:=ha.n12;obtain ⟨u,d⟩:=A;obtain ⟨t6,t7,t8,t9,t10,t11,t12,_,_,_,_,_,_,_,_,_⟩:=ha;dsimp only at hA t6 t7 t8 t9 t10 t11 t12;subst hA;refine YL rfl (fun _ _ _ h=>h) ?_;clear hI hc hd hr hca
 (repeat' (first | (refine hcn _ (fun B' hB y12=>?_)) | (simp only [↓Ya,↓Ye,↓ZZ,↓Yb,↓Xe,↓ZY,↓ZF,↓ZD,↓Xs,↓ZG,↓ZH,↓YX,↓ZJ,↓YY,↓ZI,↓ZP,↓ZU,↓Zv,↓ZS,↓YR,↓s_un,↓Wp,↓ZK,↓ZL,↓Yj,ptrV,boolV,Zmd,Zmg,Zmi,Zml,ite_true,ite_false,Zl9,Zma,Zmj,Zmu,true_and,Zme,ZmG,ZT,fillV,setAt,Zmz,ZmJ,Zmp,eq_self,Zmh,Zmb,and_self,ZmC,ZmD,Yq,JG,XV,ZaQ,ZaR,YB,Zmn,Zmy,Zmc,Yn,Yo,Yp,Wf,Wg,Zm3,ZT,Yd,YT,ZbE,Zff,ZbA,ZbF, *])))
 exact XS hy hcb (by assumption) hT [] _ _ (hy.put hB x12 hcz) (AH.set_same _ _ _) (hsub.of_set n12) Zm0 (fun _ h=>by cases h)
theorem items_4a (hd:DOk g l dn) (hy:Yi g l dn rk Hc Inv) {T:ByteArray→Int→Nat→Nat→List Tn} (hq:q<g.length) (hlt:dot<(pdAt g q).items.length) (hft:f<t) (htl:t≤l.length) (hk1:((pdAt g q).items[dot]).kind=1) (hkd:kids.length≤dot) (hcb:SubH Hc Hb) {L M:List Tn} (hyo:YOk (yV l0) Inv L) {k:Nat}
 (hnx:ZaU g l dn rc rk Hc T q (dot+1) (f+1) t) {A:AF} (hA:A.d=[]) (hI:Inv (some k) Hx Bx) (ha:ItA Inv Hb q dot f t kids l0 rc r6 r7 r8 r9 r10 r11 r12 A Hx) (t13:A.t 13=itsV (pdAt g q).items)
 (hL:L.drop k=(itsG l (hasF g dn) T ((pdAt g q).items.drop (dot+1)) (f+1) t).map (fun ks=>Tn.mk q 0 (kids++ks))++M)
 (hT:∀ Hb' B',Inv (some (k+(itsG l (hasF g dn) T ((pdAt g q).items.drop (dot+1)) (f+1) t).length)) Hb' B'→SubH Hb Hb'→K (.ret (boolV true)) B') (hF:∀ Hb' B',Inv none Hb' B'→SubH Hb Hb'→K (.ret (boolV false)) B'):ACx itX cI4 (itQ K) A Bx:=by
 dsimp only [itX,cI4,cI3,cI2,cI1,tailS,c85,Zj,Zi,Zb,Zq,Zr,Zd,Zk,Zc,Za,Ze,Zn,Zp,Zg,Zo,Zm,Zl];have hs:=hy.sub hI;have q6:=hs _ _ ha.x6;have q7:=hs _ _ ha.x7;have q8:=hs _ _ ha.x8;have q9:=hs _ _ ha.x9;have q10:=hs _ _ ha.x10;have q11:=hs _ _ ha.x11;have x12:=ha.c12;have hcz:Hc r12=none:=hcb.none ha.n12;have hsub:=ha.sub;have n12:=ha.n12
 have hnk:∀ z b,Bx z=none→∀ K':VE→AH→Prop,(∀ Hb' B',Inv (some (k+(itsG l (hasF g dn) T ((pdAt g q).items.drop (dot+1)) (f+1) t).length)) Hb' B'→SubH Hx Hb'→B' r12=some (.cells 4 [boolV false] 0)→K' (.ret (boolV true)) B')→(∀ Hb' B',Inv none Hb' B'→SubH Hx Hb'→B' r12=some (.cells 4 [boolV false] 0)→K' (.ret (boolV false)) B') →
  ZO Try.prog 85 [ptrV rc 0,iV q,iV (dot+1:Nat),.agg [iV (f+1:Nat),iV t],tnsV kids,yV l0] (Bx.set z b) K':=fun z b hz K' k1 k2=>by
  have hxs:SubH Hx (Hx.set z b):=SubH.new (hs.none hz);exact hnx kids Inv L l0 hy hyo (by omega) k M (Hx.set z b) (Bx.set z b) K' hL (hy.al _ _ _ _ _ hI hz) (fun Hb' B' h1 h2=>k1 Hb' B' h1 (hxs.trans h2) (hy.sub h1 _ _ (h2 _ _ (hxs _ _ x12)))) (fun Hb' B' h1 h2=>k2 Hb' B' h1 (hxs.trans h2) (hy.sub h1 _ _ (h2 _ _ (hxs _ _ x12))))
 generalize (itsG l (hasF g dn) T ((pdAt g q).items.drop (dot+1)) (f+1) t).length=N at *
 have hil:=WK hd.gok hq;have hnl:=hd.gok.n;clear hL hnx;generalize pdAt g q=p at *
 have hdi:=ZbB hlt;have hil2:(dot:Int)<(p.items.length:Int):=by omega
 generalize p.items[dot]=i at *
 obtain ⟨i1,i2,i3⟩:=i;dsimp only at hk1;subst hk1;have hwd:IntKind.wrap .i64 ((dot:Int)+1)=((dot+1:Nat):Int):=by rw [ZQ (by omega) (by omega)]; rfl
 have hwf:IntKind.wrap .i64 ((f:Int)+1)=((f+1:Nat):Int):=by rw [ZQ (by omega) (by omega)]; rfl
 obtain ⟨u,d⟩:=A;obtain ⟨t6,t7,t8,t9,t10,t11,t12,_,_,_,_,_,_,_,_,_⟩:=ha;dsimp only at hA t6 t7 t8 t9 t10 t11 t12 t13;subst hA;refine YL rfl (fun _ _ _ h=>h) ?_;replace hT:=Hold.mk hT;replace hF:=Hold.mk hF;replace hI:=Hold.mk hI
 (repeat' (first | (refine hnk _ _ (by assumption) _ (fun Hb' B' hB hsb y12=>?_) (fun Hb' B' hB hsb y12=>?_)) | (simp only [↓Ya,↓Ye,↓JE,↓ZZ,↓Yb,↓Ys,↓Xe,↓ZY,↓ZF,↓ZD,↓Xs,↓ZcV,↓ZG,↓ZH,↓YX,↓ZJ,↓YY,↓ZI,↓ZP,↓ZU,↓Zv,↓ZR,↓ZE,↓ZS,↓YR,↓Yy,↓Xn,↓Wp,↓ZA,↓ZN,↓ZK,↓ZL,↓Yr,↓Yz,ptrV,boolV,Zmd,Zmg,Zmi,Zml,ite_true,ite_false,Zl9,Zma,Zmj,Zmu,ne_eq,not_false_eq_true,true_and,Zme,decide_true,ZmL,Zmw,AH.get,AH.set_set,ZT,fillV,setAt,Zmz,ZmJ,Zmp,eq_self,Zmh,Zmo,Zmb,and_self,ZmC,ZmD,Yq,Wt,XV,Wc,ZaQ,ZaR,WM,YB,Zmn,Zmy,↓Xo,YP,Zmc,WC,Yn,YK,WE,XG,Yo,WD,Yp,YG,Wf,Wg,Zm3,ZT,XH,Wl,Xd,Yd,YT,ZaH,ZeW,JD,Zff,WU,ZaI,Xp,Xu,ZlZ, *]) | (refine Zw fun zr zh=>?_; have zg:=zh; (try simp only [AH.set_none] at zg); (try have zn_q6:=AH.ne_of q6 zh); (try have zn_q6:=AH.ne_of q6 zg.2); (try have zn_q6:=AH.ne_of q6 zg.2.2); (try have zn_q6:=AH.ne_of q6 zg.2.2.2); (try have zn_q6:=AH.ne_of q6 zg.2.2.2.2); (try have zn_q7:=AH.ne_of q7 zh); (try have zn_q7:=AH.ne_of q7 zg.2); (try have zn_q7:=AH.ne_of q7 zg.2.2); (try have zn_q7:=AH.ne_of q7 zg.2.2.2); (try have zn_q7:=AH.ne_of q7 zg.2.2.2.2); (try have zn_q8:=AH.ne_of q8 zh); (try have zn_q8:=AH.ne_of q8 zg.2); (try have zn_q8:=AH.ne_of q8 zg.2.2); (try have zn_q8:=AH.ne_of q8 zg.2.2.2); (try have zn_q8:=AH.ne_of q8 zg.2.2.2.2); (try have zn_q9:=AH.ne_of q9 zh); (try have zn_q9:=AH.ne_of q9 zg.2); (try have zn_q9:=AH.ne_of q9 zg.2.2); (try have zn_q9:=AH.ne_of q9 zg.2.2.2); (try have zn_q9:=AH.ne_of q9 zg.2.2.2.2); (try have zn_q10:=AH.ne_of q10 zh); (try have zn_q10:=AH.ne_of q10 zg.2); (try have zn_q10:=AH.ne_of q10 zg.2.2); (try have zn_q10:=AH.ne_of q10 zg.2.2.2); (try have zn_q10:=AH.ne_of q10 zg.2.2.2.2); (try have zn_q11:=AH.ne_of q11 zh); (try have zn_q11:=AH.ne_of q11 zg.2); (try have zn_q11:=AH.ne_of q11 zg.2.2); (try have zn_q11:=AH.ne_of q11 zg.2.2.2); (try have zn_q11:=AH.ne_of q11 zg.2.2.2.2))))
 ·exact XS hy hcb (by assumption) hT.out [] _ _ (hy.put hB (hsb _ _ x12) hcz) (AH.set_same _ _ _) ((hsub.trans hsb).of_set n12) Zm0 (fun _ h=>by cases h)
 ·exact XS hy hcb (by assumption) hF.out [] _ _ (hy.put hB (hsb _ _ x12) hcz) (AH.set_same _ _ _) ((hsub.trans hsb).of_set n12) Zm0 (fun _ h=>by cases h)
theorem RvC.last {S:Nat→Prop} {w:World} {x y:VV} (h:∀ u,Rv S w x u→Rv S w y u):∀ {xs:List VV} {r o:Nat},RvC S w (xs++[x]) r o→RvC S w (xs++[y]) r o
 | [],_,_,h'=>⟨h'.1.elim fun u hu=>⟨u,hu.1,h u hu.2⟩,trivial⟩
 | z::xs,r,o,h'=>⟨h'.1,RvC.last h h'.2⟩
theorem GhV.nil_last (H:AH) (ex:Bool) (n:Nat) (xs:List VV):GhV H (.slice ex n (xs++[.lit (.slice none 0 0)])) H (.slice ex n (xs++[.slice false 0 []])):=fun S w u hs hx=>by
 obtain ⟨a,cap,rfl,h1,h2⟩:=hx;refine ⟨S,.refl _ _ _,hs,a,cap,rfl,h1,fun hn=>?_⟩;obtain ⟨r,o,e,hr,hc⟩:=h2 hn;refine ⟨r,o,e,hr,RvC.last (fun u hu=>?_) hc⟩;obtain rfl:=hu;exact ⟨none,0,rfl,⟨Zmc _,fun h=>by cases h⟩,fun h=>absurd h (by omega)⟩
theorem Zje (kids:List Tn) (e:Tn):tnsV (kids++[e])=.slice false (kids.length+1) (encC tnE kids++[iV e.prod,iV e.tok,encS tnE e.kids]):=by
 show VV.slice false (kids++[e]).length _=_;rw [ZmB,YS,Yg,Zbd,ZmF,ZcA]; rfl
theorem items_4b (hd:DOk g l dn) (hy:Yi g l dn rk Hc Inv) {T:ByteArray→Int→Nat→Nat→List Tn} (hq:q<g.length) (hlt:dot<(pdAt g q).items.length) (hft:f<t) (htl:t≤l.length) (hk1:((pdAt g q).items[dot]).kind=2) (hkd:kids.length≤dot) (hcb:SubH Hc Hb) {L M:List Tn} (hyo:YOk (yV l0) Inv L) {k:Nat}
 (hnx:ZaU g l dn rc rk Hc T q (dot+1) (f+1) t) {A:AF} (hA:A.d=[]) (hI:Inv (some k) Hx Bx) (ha:ItA Inv Hb q dot f t kids l0 rc r6 r7 r8 r9 r10 r11 r12 A Hx) (t13:A.t 13=itsV (pdAt g q).items)
 (hL:L.drop k=(itsG l (hasF g dn) T ((pdAt g q).items.drop (dot+1)) (f+1) t).map (fun ks=>Tn.mk q 0 (kids++[Tn.mk (-1) f []]++ks))++M)
 (hT:∀ Hb' B',Inv (some (k+(itsG l (hasF g dn) T ((pdAt g q).items.drop (dot+1)) (f+1) t).length)) Hb' B'→SubH Hb Hb'→K (.ret (boolV true)) B') (hF:∀ Hb' B',Inv none Hb' B'→SubH Hb Hb'→K (.ret (boolV false)) B'):ACx itX cI4 (itQ K) A Bx:=by
 dsimp only [itX,cI4,cI3,cI2,cI1,tailS,c85,Zj,Zi,Zb,Zq,Zr,Zd,Zk,Zc,Za,Ze,Zn,Zp,Zg,Zo,Zm,Zl];have hs:=hy.sub hI;have q6:=hs _ _ ha.x6;have q7:=hs _ _ ha.x7;have q8:=hs _ _ ha.x8;have q9:=hs _ _ ha.x9;have q10:=hs _ _ ha.x10;have q11:=hs _ _ ha.x11;have x12:=ha.c12;have hcz:Hc r12=none:=hcb.none ha.n12;have hsub:=ha.sub;have n12:=ha.n12
 have hnk:∀ z b,Bx z=none→∀ v' H2,OwnX (Bx.set z b) H2 44 3 v' (kids.length+1) (encC tnE kids++[iV (-1),iV f,.lit (.slice none 0 0)])→∀ K':VE→AH→Prop,(∀ Hb' B',Inv (some (k+(itsG l (hasF g dn) T ((pdAt g q).items.drop (dot+1)) (f+1) t).length)) Hb' B'→SubH Hx Hb'→B' r12=some (.cells 4 [boolV false] 0)→K' (.ret (boolV true)) B')→(∀ Hb' B',Inv none Hb' B'→SubH Hx Hb'→B' r12=some (.cells 4 [boolV false] 0)→K' (.ret (boolV false)) B') →
  ZO Try.prog 85 [ptrV rc 0,iV q,iV (dot+1:Nat),.agg [iV (f+1:Nat),iV t],v',yV l0] H2 K':=fun z b hz v' H2 ho K' k1 k2=>by
  have hxs:SubH Hx (Hx.set z b):=SubH.new (hs.none hz)
  have hg:=(GhV.own ho).trans (by
   have h:=GhV.nil_last (Bx.set z b) false (kids.length+1) (encC tnE kids++[iV (-1),iV f]);rw [Zm7,Zm7] at h;exact h)
  have e:=Zje kids (Tn.mk (-1) f []);refine WT (GhL.cons (GhV.refl _ _) (GhL.cons (GhV.refl _ _) (GhL.cons (GhV.refl _ _) (GhL.cons (GhV.refl _ _) (GhL.cons hg (GhL.cons (GhV.refl _ _) (GhL.nil _))))))) ?_;have h:=hnx (kids++[Tn.mk (-1) f []]) Inv L l0 hy hyo (by rw [ZmB]; simp; omega) k M (Hx.set z b) (Bx.set z b) K' hL (hy.al _ _ _ _ _ hI hz) (fun Hb' B' h1 h2=>k1 Hb' B' h1 (hxs.trans h2) (hy.sub h1 _ _ (h2 _ _ (hxs _ _ x12)))) (fun Hb' B' h1 h2=>k2 Hb' B' h1 (hxs.trans h2) (hy.sub h1 _ _ (h2 _ _ (hxs _ _ x12))));rw [e] at h;exact h
 generalize (itsG l (hasF g dn) T ((pdAt g q).items.drop (dot+1)) (f+1) t).length=N at *
 have hil:=WK hd.gok hq;have hnl:=hd.gok.n;clear hL hnx;generalize pdAt g q=p at *
 have hdi:=ZbB hlt;have hil2:(dot:Int)<(p.items.length:Int):=by omega
 generalize p.items[dot]=i at *
 obtain ⟨i1,i2,i3⟩:=i;dsimp only at hk1;subst hk1;have hwd:IntKind.wrap .i64 ((dot:Int)+1)=((dot+1:Nat):Int):=by rw [ZQ (by omega) (by omega)]; rfl
 have hwf:IntKind.wrap .i64 ((f:Int)+1)=((f+1:Nat):Int):=by rw [ZQ (by omega) (by omega)]; rfl
 obtain ⟨u,d⟩:=A;obtain ⟨t6,t7,t8,t9,t10,t11,t12,_,_,_,_,_,_,_,_,_⟩:=ha;dsimp only at hA t6 t7 t8 t9 t10 t11 t12 t13;subst hA;have hclp:=Zjb kids.length (encC tnE kids);refine YL rfl (fun _ _ _ h=>h) ?_;replace hT:=Hold.mk hT;replace hF:=Hold.mk hF;replace hI:=Hold.mk hI
 (repeat' (first | (refine Yf mixed (fun _ _ _ _ _ h=>False.elim h) _ (SubH.refl _) ?_) | (simp only [↓Ya,↓Ye,↓JE,↓ZZ,↓Yb,↓Yv,↓Ys,↓XF,↓ZY,↓ZF,↓ZD,↓ZG,↓ZH,↓YX,↓ZJ,↓YY,↓ZI,↓ZP,↓ZU,↓Zv,↓ZR,↓ZE,↓ZS,↓YR,↓Yy,↓Xn,↓Wp,↓YC,↓ZA,↓ZN,↓ZX,↓ZK,↓ZL,↓WX,↓Yr,↓Yz,ptrV,Zmd,Zmg,Zmi,Zml,ZmF,ite_true,ite_false,Zl9,Zma,Zmj,Zm8,Zmu,ne_eq,not_false_eq_true,true_and,Zme,decide_true,decide_false,ZmL,Zmw,↓Xg,↓Xm,AH.get,AH.set_set,ZT,fillV,setAt,Zmz,ZmJ,Zmp,eq_self,Zmh,Zmo,Zmb,and_self,ZmC,ZmD,Yq,Wt,XV,Wc,WM,YB,Zmn,Zmy,↓Xo,YP,Zmc,WC,Yn,YK,WE,XG,Yo,WD,Yp,YG,Wf,Wg,↓Wy,↓XM,Int.reduceEq,Zm3,ZB,ZmP,ZmZ,ZmT,ZmX,ZT,ZB,XH,Wl,Xd,Yd,YT,ZaH,ZeW,JD,Zke,WU,ZaI,XE,Xp,Xt,Xu,en_105, *]) | (refine Zw fun zr zh=>?_; have zg:=zh; (try simp only [AH.set_none] at zg); (try have zn_q6:=AH.ne_of q6 zh); (try have zn_q6:=AH.ne_of q6 zg.2); (try have zn_q6:=AH.ne_of q6 zg.2.2); (try have zn_q6:=AH.ne_of q6 zg.2.2.2); (try have zn_q6:=AH.ne_of q6 zg.2.2.2.2); (try have zn_q7:=AH.ne_of q7 zh); (try have zn_q7:=AH.ne_of q7 zg.2); (try have zn_q7:=AH.ne_of q7 zg.2.2); (try have zn_q7:=AH.ne_of q7 zg.2.2.2); (try have zn_q7:=AH.ne_of q7 zg.2.2.2.2); (try have zn_q8:=AH.ne_of q8 zh); (try have zn_q8:=AH.ne_of q8 zg.2); (try have zn_q8:=AH.ne_of q8 zg.2.2); (try have zn_q8:=AH.ne_of q8 zg.2.2.2); (try have zn_q8:=AH.ne_of q8 zg.2.2.2.2); (try have zn_q9:=AH.ne_of q9 zh); (try have zn_q9:=AH.ne_of q9 zg.2); (try have zn_q9:=AH.ne_of q9 zg.2.2); (try have zn_q9:=AH.ne_of q9 zg.2.2.2); (try have zn_q9:=AH.ne_of q9 zg.2.2.2.2); (try have zn_q10:=AH.ne_of q10 zh); (try have zn_q10:=AH.ne_of q10 zg.2); (try have zn_q10:=AH.ne_of q10 zg.2.2); (try have zn_q10:=AH.ne_of q10 zg.2.2.2); (try have zn_q10:=AH.ne_of q10 zg.2.2.2.2); (try have zn_q11:=AH.ne_of q11 zh); (try have zn_q11:=AH.ne_of q11 zg.2); (try have zn_q11:=AH.ne_of q11 zg.2.2); (try have zn_q11:=AH.ne_of q11 zg.2.2.2); (try have zn_q11:=AH.ne_of q11 zg.2.2.2.2)) | (exact SubH.refl _) | (refine PureF.use (hclp) ?_) | (with_reducible refine And.intro ?_ ?_)))
 refine WP Xt XE rfl (by omega) (YO ZcB kids) (m:=1) (news:=[iV (-1),iV f,.lit (.slice none 0 0)]) rfl rfl (by omega) (by omega) (fun h=>by omega) (fun _ v' H2 ho=>?_);have hos:=ho.sub;have hzr:=zh;replace ho:=Hold.mk ho
 (repeat' (first | (refine hnk _ _ hzr _ _ ho.out _ (fun Hb' B' hB hsb y12=>?_) (fun Hb' B' hB hsb y12=>?_)) | (simp only [↓Xe,↓ZY,↓ZF,↓ZD,↓Xs,↓ZcV,↓ZG,↓ZH,↓YX,↓ZJ,↓YY,↓ZI,↓ZU,↓Zv,↓YR,↓ZK,↓ZL,ptrV,boolV,Zmd,Zmg,Zmi,Zml,ite_true,ite_false,Zl9,Zma,true_and,Zme,↓Xc,setAt,Zmz,ZmJ,Zmp,eq_self,Zmh,ZaQ,ZaR,Zmn,Zmc,Wf,Wg,↓XM,Zm3,Zff,ZlZ, *])))
 ·exact XS hy hcb (by assumption) hT.out [] _ _ (hy.put hB (hsb _ _ x12) hcz) (AH.set_same _ _ _) ((hsub.trans hsb).of_set n12) Zm0 (fun _ h=>by cases h)
 ·exact XS hy hcb (by assumption) hF.out [] _ _ (hy.put hB (hsb _ _ x12) hcz) (AH.set_same _ _ _) ((hsub.trans hsb).of_set n12) Zm0 (fun _ h=>by cases h)
end
end Go.PV.Ytfkkmdelpddojaa
end
section
open List renaming length_append→ZmB,mem_cons_of_mem→ZmN,mem_cons_self→ZmR,length_cons→Zmi,drop_eq_getElem_cons→ZmY,length_take→ZmV,append_assoc→Zm7
open Nat renaming reduceEqDiff→Zl9,reduceLT→Zma
set_option maxRecDepth 20000
set_option maxHeartbeats 4000000
namespace Go.PV.Ytfkkmdelpddojaa
open Go Go.Proofs
theorem acall_ro {P:Program} {ro:Option Nat} {fv:VV} {xs:List VV} {H:AH} {K:VE→AH→Prop} (h:ACall P none fv xs H K):ACall P ro fv xs H K:=fun S w f args a b c=>h S w f args a b c
theorem ZiI {P:Program} {ro:Option Nat} {l0:Nat} {xs xs':List VV} {H H':AH} {K:VE→AH→Prop} (g:GhL H xs H' xs') (h:ACall P ro (yV l0) xs' H' K):ACall P ro (yV l0) xs H K:=fun S w fv args hs hf hx=>by
 obtain ⟨S1,a1,a2,a3⟩:=g S w _ hs hx
 have:=h S1 w fv args a2 hf a3
 unfold Zb4 at *
 refine ⟨this.1,?_⟩;replace this:=this.2;split
 ·rename_i g sa w' hr;simp only [hr] at this;exact CallsIn.mono this fun _ _ hq=>hq.lift a1
 ·rename_i l g ts asg body w' hr;simp only [hr] at this;exact RoundIn.mono this fun _ _ hq=>hq.lift a1
 ·rename_i n1 n2
  revert this
  split
  ·rename_i e; exact absurd e (n1 _ _ _)
  ·rename_i e; exact absurd e (n2 _ _ _ _ _ _)
  ·exact fun h=>h
theorem ZhZ {cx:Cx} {a:ACode} {Q:APost} {t:Nat→VV} {d:List Deferred} {H:AH} (p:(Nat→VV)→AH→Prop) (hp:p t H) (h:∀ t' H',p t' H'→ACx cx a Q ⟨t',d⟩ H'):ACx cx a Q ⟨t,d⟩ H:=h t H hp
section
variable {g:List Pd} {l:List Tk} {dn:Sp→List Int} {rc rk:Nat} {Hc:AH} {Inv:Option Nat→AH→AH→Prop}
def TrC (rc:Nat) (sym:ByteArray) (least:Int) (f t:Nat) (banned:List Int) (r1 r2 r3 r4 r5:Nat) (Hb:AH):Prop :=
 Hb r1=some (.cells 93 [ptrV rc 0] 0)∧Hb r2=some (.cells 99 (spE (f,t)) 0)∧Hb r3=some (.cells 9 [sV sym] 0)∧Hb r4=some (.cells 3 [iV least] 0)∧Hb r5=some (.cells 108 [intsV banned] 0)
theorem TrC.mono {sym:ByteArray} {least:Int} {f t:Nat} {banned:List Int} {r1 r2 r3 r4 r5:Nat} {Hb Hb':AH} (h:TrC rc sym least f t banned r1 r2 r3 r4 r5 Hb) (hs:SubH Hb Hb'):TrC rc sym least f t banned r1 r2 r3 r4 r5 Hb' :=
 ⟨hs _ _ h.1,hs _ _ h.2.1,hs _ _ h.2.2.1,hs _ _ h.2.2.2.1,hs _ _ h.2.2.2.2⟩
abbrev trV (r1 r2 r3 r4 r5:Nat):VV:=.func (.func 82) [] [ptrV r1 0,ptrV r2 0,ptrV r3 0,ptrV r4 0,ptrV r5 0]
theorem Zjf (hy:Yi g l dn rk Hc Inv) {sym:ByteArray} {least:Int} {f t:Nat} {banned:List Int} {k:Option Nat} {Hb B:AH} {K:VE→AH→Prop} (hI:Inv k Hb B)
 (h:∀ (Hx Bx:AH) (r1 r2 r3 r4 r5:Nat),Inv k Hx Bx→SubH Hb Hx→TrC rc sym least f t banned r1 r2 r3 r4 r5 Hx→K (.ret (trV r1 r2 r3 r4 r5)) Bx) :
 ZO Try.prog 44 [ptrV rc 0,sV sym,iV least,spV (f,t),intsV banned] B K:=by
 refine Zy fd44 (by simp) ?_;delta c44 Zj Zq Zr Zc;replace hI:=Hold.mk hI
 (repeat' (first | (simp only [↓Zt,Zu,↓Wm,ptrV,Zl9,Zma,Zx,undef, *]) | (refine ZC ?_) | (refine Zw fun zr zh=>?_; have zg:=zh; (try simp only [AH.set_none] at zg))))
 rename_i r6 n6 g6 r7 n7 g7 r8 n8 g8 r9 n9 g9;have hs:=hy.sub hI.out;have hi:=hy.al _ _ _ zr (.cells 108 [intsV banned] 0) (hy.al _ _ _ r9 (.cells 99 (spE (f,t)) 0) (hy.al _ _ _ r8 (.cells 3 [iV least] 0) (hy.al _ _ _ r7 (.cells 9 [sV sym] 0) (hy.al _ _ _ r6 (.cells 93 [ptrV rc 0] 0) hI.out n6) n7) n8) n9) zh;exact h _ _ _ _ _ _ _ hi ((((((SubH.new (hs.none n6)).of_set (hs.none g7.2)).of_set (hs.none g8.2.2)).of_set (hs.none g9.2.2.2)).of_set (hs.none zg.2.2.2.2))) ⟨(by simp only [AH.get, *,if_true,if_false]<;>rfl),(by simp only [AH.get, *,if_true,if_false]<;>rfl),(by simp only [AH.get, *,if_true,if_false]<;>rfl),(by simp only [AH.get, *,if_true,if_false]<;>rfl),(by simp only [AH.get, *,if_true,if_false]<;>rfl)⟩
theorem Zhd (hy:Yi g l dn rk Hc Inv) {sym:ByteArray} {least:Int} {f t:Nat} {k:Option Nat} {Hb B:AH} {K:VE→AH→Prop} (hI:Inv k Hb B)
 (h:∀ (Hx Bx:AH) (r1 r2 r3 r4 r5:Nat),Inv k Hx Bx→SubH Hb Hx→TrC rc sym least f t [] r1 r2 r3 r4 r5 Hx→K (.ret (trV r1 r2 r3 r4 r5)) Bx) :
 ZO Try.prog 44 [ptrV rc 0,sV sym,iV least,.agg [iV f,iV t],.lit (.slice none 0 0)] B K:=by
 refine WT (GhL.cons (GhV.refl _ _) (GhL.cons (GhV.refl _ _) (GhL.cons (GhV.refl _ _) (GhL.cons (GhV.refl _ _) (GhL.cons (GhV.nil _) (GhL.nil _)))))) ?_;exact Zjf (banned:=[]) hy hI h
def symJ (l:List Tk) (has:It→Nat→Nat→Bool) (T:ByteArray→Int→Nat→Nat→List Tn) (i:It) (is:List It) (f t j:Nat):List (List Tn) :=
 if canL l has is (f+1+j) t=false then [] else (T i.text i.prio f (f+1+j)).flatMap fun x=>(itsG l has T is (f+1+j) t).map (x::·)
theorem Za5 {α β:Type} {F:α→List β} {n:Nat}:∀ {X:List α},(∀ x∈X,(F x).length=n)→(X.flatMap F).length=X.length * n
 | [],_=>by simp
 | x::X,h=>by
   rw [List.flatMap_cons,ZmB,Za5 (X:=X) (fun y hy=>h y (ZmN _ hy)),h x (ZmR ..),Zmi,Nat.succ_mul]; omega
theorem ZlL {α β:Type} {F:α→List β} {n:Nat} {X:List α} {L M:List β} {k j:Nat} (h:L.drop k=X.flatMap F++M) (hn:∀ x∈X,(F x).length=n) (hj:j<X.length):L.drop (k+j * n)=F X[j]++((X.drop (j+1)).flatMap F++M):=by
 have e:X=X.take j++X[j]::X.drop (j+1):=by rw [← ZmY hj,List.take_append_drop]
 have e2:=congrArg (List.flatMap F) e;rw [List.flatMap_append,List.flatMap_cons] at e2
 have hl:((X.take j).flatMap F).length=j * n:=by
  rw [Za5 (n:=n) fun x hx=>hn x (List.mem_of_mem_take hx),ZmV]
  congr 1; omega
 rw [← List.drop_drop,h,e2,Zm7,Zm7,List.drop_left' hl]
end
end Go.PV.Ytfkkmdelpddojaa
end
section
open Bool renaming not_false→ZmG,not_true→ZmK,and_self→Zmp
open Int renaming reduceNeg→Zm3
open List renaming drop→Zmb,nil_append→ZmO,map_cons→Zmd,map_nil→Zmg,length_cons→Zmi,length_nil→Zml,getElem?_cons_zero→ZmC,getElem?_cons_succ→ZmD,set_cons_zero→Zmn,set_cons_succ→Zmy,append_assoc→Zm7,length_append→ZmB,all_cons→Zmz,all_nil→ZmJ,range→Zmm,drop_eq_nil_of_le→Znb,drop_eq_getElem_cons→ZmY,nodup_nil→Zm0
open Nat renaming reduceEqDiff→Zl9,reduceLT→Zma,reduceAdd→Zmj,reduceLeDiff→Zmu,succ_ne_self→Zme,zero_add→Zmh,le_refl→Zmc,add_zero→Zmo,reduceMul→Zm8,lt_or_ge→ZmI,zero_le→ZmU
set_option maxRecDepth 20000
set_option maxHeartbeats 4000000
namespace Go.PV.Ytfkkmdelpddojaa
open Go Go.Proofs
section
variable {g:List Pd} {l:List Tk} {dn:Sp→List Int} {rc rk:Nat} {Hc:AH} {Inv:Option Nat→AH→AH→Prop} {q dot f t l0 r6 r7 r8 r9 r10 r11 r12:Nat} {kids:List Tn} {Hb Hx Bx:AH} {K:VE→AH→Prop}
theorem AH.set_id {H:AH} {r:Nat} {b:Blk} (h:H r=some b):H.set r b=H:=by
 funext i
 by_cases e:i=r
 ·subst e; rw [AH.set_same,h]
 ·rw [AH.set_ne _ _ e]
structure LpI (Inv:Option Nat→AH→AH→Prop) (Hb Hz:AH) (r6 r7 r8 r9 r10 r11 r12 r14 f t:Nat) (S:Nat→List (List Tn)) (φ:List Tn→Tn) (L M:List Tn) (kN:Nat) (n:Nat) (A:AF) (H:AH):Prop where
 t6:A.t 6=ptrV r6 0
 t7:A.t 7=ptrV r7 0
 t8:A.t 8=ptrV r8 0
 t9:A.t 9=ptrV r9 0
 t10:A.t 10=ptrV r10 0
 t11:A.t 11=ptrV r11 0
 t12:A.t 12=ptrV r12 0
 t14:A.t 14=ptrV r14 0
 ex:∃ (j r15:Nat) (rs:List Nat) (Hq:AH) (kj:Nat),n=t-f-j∧j≤t-f∧A.t 15=ptrV r15 0∧A.d=rs.map WL∧Inv (some kj) Hq H∧SubH Hz Hq∧Hq r15=some (.cells 3 [iV (f+1+j:Nat)] 0)∧rs.Nodup∧(∀ r∈rs,Hq r=some (.obj (.deferred (some [])))∧Hb r=none) ∧
  L.drop kj=((List.range' j (t-f-j)).flatMap S).map φ++M∧kj+((List.range' j (t-f-j)).flatMap S).length=kN
noncomputable abbrev lpQ (K:VE→AH→Prop):APost:=XO 1 (XO 0 (thenA (ACx itX c85_2 (itQ K)) (itQ K)))
theorem Zj2 (hc:FCh g l dn rc rk Hc) (hd:DOk g l dn) (hy:Yi g l dn rk Hc Inv) {T:ByteArray→Int→Nat→Nat→List Tn} (hq:q<g.length) {i:It} {is:List It} (his:(pdAt g q).items.drop (dot+1)=is) (hdl:dot<(pdAt g q).items.length) (hft:f<t) (htl:t≤l.length) (hkd:kids.length≤dot) (hcb:SubH Hc Hb) {L M:List Tn} (hyo:YOk (yV l0) Inv L) {kN:Nat}
 (hnx:∀ to,f<to→to≤t→ZaU g l dn rc rk Hc T q (dot+1) to t)
 (htr:∀ to,f<to→to≤t→canL l (hasF g dn) is to t=true→∀ Hc',FCh g l dn rc rk Hc'→Zd1 g l dn rc rk Hc' (T i.text i.prio f to) i.text i.prio f to [])
 {A:AF} {H Hz:AH} {r14 n:Nat} (hbz:SubH Hb Hz) (z6:Hz r6=some (.cells 93 [ptrV rc 0] 0)) (z7:Hz r7=some (.cells 3 [iV q] 0)) (z8:Hz r8=some (.cells 3 [iV dot] 0)) (z9:Hz r9=some (.cells 99 (spE (f,t)) 0)) (z10:Hz r10=some (.cells 26 [tnsV kids] 0)) (z11:Hz r11=some (.cells 75 [yV l0] 0)) (z12:Hz r12=some (.cells 4 [boolV false] 0)) (n12:Hb r12=none) (z14:Hz r14=some (.cells 64 (itE i) 0))
 (hlp:LpI Inv Hb Hz r6 r7 r8 r9 r10 r11 r12 r14 f t (symJ l (hasF g dn) T i is f t) (fun ks=>Tn.mk q 0 (kids++ks)) L M kN n A H)
 (hT:∀ Hb' B',Inv (some kN) Hb' B'→SubH Hb Hb'→K (.ret (boolV true)) B') (hF:∀ Hb' B',Inv none Hb' B'→SubH Hb Hb'→K (.ret (boolV false)) B'):ACx itX (.loop b85_1) (lpQ K) A H:=by
 have hcz:=hcb.trans hbz;have hil:=WK hd.gok hq;have hnl:=hd.gok.n;refine Zeh (fun _ _ _ h=>h) (LpI Inv Hb Hz r6 r7 r8 r9 r10 r11 r12 r14 f t (symJ l (hasF g dn) T i is f t) (fun ks=>Tn.mk q 0 (kids++ks)) L M kN) hlp ?_;clear hlp;rintro n ⟨u,d⟩ H ⟨t6,t7,t8,t9,t10,t11,t12,t14,j,r15,rs,Hq,kj,hn,hj,t15,hdd,hI,hzq,x15,hnd,hrs,hL,hkN⟩ R hR;dsimp only at t6 t7 t8 t9 t10 t11 t12 t14 t15 hdd;subst hdd;have hqs:=hy.sub hI;have q6:=hqs _ _ (hzq _ _ z6);have q7:=hqs _ _ (hzq _ _ z7);have q8:=hqs _ _ (hzq _ _ z8);have q9:=hqs _ _ (hzq _ _ z9);have q10:=hqs _ _ (hzq _ _ z10);have q11:=hqs _ _ (hzq _ _ z11);have q12:=hqs _ _ (hzq _ _ z12);have q14:=hqs _ _ (hzq _ _ z14);have q15:=hqs _ _ x15;delta b85_1 Zb Zd Zn Zr Zm Zq Zo Zi Zg Zl;have hwd:IntKind.wrap .i64 ((dot:Int)+1)=((dot+1:Nat):Int):=by rw [ZQ (by omega) (by omega)]; rfl
 have hwj:IntKind.wrap .i64 (((f+1+j:Nat):Int)+1)=((f+1+(j+1):Nat):Int):=by rw [ZQ (by omega) (by omega)]; omega
 by_cases hjw:j<t-f
 ·have hle:((f+1+j:Nat):Int)≤(t:Int):=by omega
  have hrok:rOk g l ⟨q,dot+1,f+1+j,t⟩:=⟨hq,hdl,by show f+1+j≤l.length; omega,htl⟩
  have hcn:=fun (K':VE→AH→Prop) (h:∀ B',Inv (some kj) Hq B'→B' r15=some (.cells 3 [iV (f+1+j:Nat)] 0)→B' r6=some (.cells 93 [ptrV rc 0] 0)→B' r9=some (.cells 99 (spE (f,t)) 0)→B' r14=some (.cells 64 (itE i) 0)→K' (.ret (boolV (canF g l dn ⟨q,dot+1,f+1+j,t⟩))) B')=>ZhX (K:=K') hd hc hy hI hrok fun B' hB=>h B' hB (hy.sub hB _ _ x15) (hy.sub hB _ _ (hzq _ _ z6)) (hy.sub hB _ _ (hzq _ _ z9)) (hy.sub hB _ _ (hzq _ _ z14))
  have hcf:canF g l dn ⟨q,dot+1,f+1+j,t⟩=canL l (hasF g dn) is (f+1+j) t:=by unfold canF; dsimp only; rw [his]
  rw [hcf] at hcn;clear hcf;have hrj:t-f-j=(t-f-(j+1))+1:=by omega
  rw [hrj,List.range'_succ,List.flatMap_cons] at hL hkN;replace hT:=Hold.mk hT;replace hF:=Hold.mk hF;replace hI:=Hold.mk hI;replace hR:=Hold.mk hR;replace hn:=Hold.mk hn;replace hrs:=Hold.mk hrs;replace hnd:=Hold.mk hnd
  have hnext:∀ (u':Nat→VV) (rs':List Nat) (Hq':AH) (kj':Nat) (B':AH),(∀ i,i<16→u' i=u i)→Inv (some kj') Hq' B'→SubH Hq Hq'→rs'.Nodup→(∀ r∈rs',Hq' r=some (.obj (.deferred (some [])))∧Hb r=none) →
   L.drop kj'=((List.range' (j+1) (t-f-(j+1))).flatMap (symJ l (hasF g dn) T i is f t)).map (fun ks=>Tn.mk q 0 (kids++ks))++M→kj'+((List.range' (j+1) (t-f-(j+1))).flatMap (symJ l (hasF g dn) T i is f t)).length=kN→ACx itX Zl5 (thenA R (lpQ K)) ⟨u',rs'.map WL⟩ B':=fun u' rs' Hq' kj' B' hu hI' hs' hnd' hrs' hL' hk'=>by
   have p15:=hy.sub hI' _ _ (hs' _ _ x15);have t15':=(hu 15 (by omega)).trans t15;delta Zl5 Zb Zi Zg Zm;dsimp only [itX];refine YL rfl (fun _ _ _ h=>h) ?_;have hqs':=hy.sub hI';replace hI':=Hold.mk hI';replace hL':=Hold.mk hL';replace hk':=Hold.mk hk';clear hL hkN hI hcn;have t6':=(hu 6 (by omega)).trans t6;have t7':=(hu 7 (by omega)).trans t7;have t8':=(hu 8 (by omega)).trans t8;have t9':=(hu 9 (by omega)).trans t9;have t10':=(hu 10 (by omega)).trans t10;have t11':=(hu 11 (by omega)).trans t11;have t12':=(hu 12 (by omega)).trans t12;have t14':=(hu 14 (by omega)).trans t14
   (repeat' (first | (simp only [↓Zt,Zu,ptrV,Zl9,Zma,setAt,Zmb,Yd,Zfd,Wv, *]) | (refine Zw fun zr zh=>?_; have zg:=zh; (try simp only [AH.set_none] at zg))))
   refine hR.out (t-f-(j+1)) _ _ (by have:=hn.out; omega) ⟨(by simp only [Zv,Zl9,if_false, *]<;>rfl),(by simp only [Zv,Zl9,if_false, *]<;>rfl),(by simp only [Zv,Zl9,if_false, *]<;>rfl),(by simp only [Zv,Zl9,if_false, *]<;>rfl),(by simp only [Zv,Zl9,if_false, *]<;>rfl),(by simp only [Zv,Zl9,if_false, *]<;>rfl),(by simp only [Zv,Zl9,if_false, *]<;>rfl),(by simp only [Zv,Zl9,if_false, *]<;>rfl),j+1,zr,rs',_,kj',rfl,by omega,(by simp only [Zv,Zl9,if_true,if_false, *]<;>rfl),rfl,hy.al _ _ _ _ _ hI'.out zh,(hzq.trans hs').of_set ((hzq.trans hs').none (hqs'.none zh)),AH.set_same _ _ _,hnd',fun r hr=>?_,hL'.out,hk'.out⟩;obtain ⟨h1,h2⟩:=hrs' r hr;exact ⟨(AH.set_ne _ _ (AH.ne_of h1 (hqs'.none zh)).1).trans h1,h2⟩
  cases hca:canL l (hasF g dn) is (f+1+j) t with
  | false =>
    have hsj:symJ l (hasF g dn) T i is f t j=[]:=by unfold symJ; rw [if_pos hca]
    rw [hca] at hcn;rw [hsj,ZmO] at hL hkN;replace hL:=Hold.mk hL;replace hkN:=Hold.mk hkN;have hnx2:=Hold.mk hnext;clear hsj hca hnext
    (repeat' (first | (refine hcn _ (fun B' hB y15 y6 y9 y14=>?_)) | (simp only [↓Yt,↓Ya,↓Ye,↓JE,↓ZZ,↓Yb,↓Ys,↓ZaJ,↓ZY,↓ZF,↓ZD,↓JB,↓Jg,↓ZcU,↓ZG,↓ZH,↓ZJ,↓ZI,↓ZP,↓ZU,↓Zv,↓ZS,↓Yy,↓s_un,↓Wp,↓ZA,↓ZK,↓ZL,↓Yj,↓YV,↓Yz,ptrV,boolV,Zmd,Zmg,Zmi,Zml,ite_true,ite_false,Zl9,Zma,Zmj,Zmu,ne_eq,not_false_eq_true,true_and,Zme,decide_true,ZmG,reduceCtorEq,ZT,fillV,setAt,eq_self,Zmh,Zmb,and_self,ZmC,ZmD,Yq,XV,YB,Zmn,Zmy,Zmc,Yn,YK,Yo,Yp,YG,ZT,XH,Yd,YT,ZaI,ZbA,ZbF, *])))
    exact hnx2.out _ rs Hq kj B' (by intro i hi; simp only [Zv]; repeat rw [if_neg (by omega)]) hB (SubH.refl _) hnd.out hrs.out hL.out hkN.out
  | true =>
    rw [hca] at hcn;have htro:=htr (f+1+j) (by omega) (by omega) hca;have hnx1:=hnx (f+1+j) (by omega) (by omega);have hsj:symJ l (hasF g dn) T i is f t j=(T i.text i.prio f (f+1+j)).flatMap fun x=>(itsG l (hasF g dn) T is (f+1+j) t).map (x::·):=by unfold symJ; rw [if_neg (by rw [hca]; simp)]
    have htr0:=fun (K':VE→AH→Prop) (B':AH) (hB:Inv (some kj) Hq B')=>Zhd (rc:=rc) (K:=K') (sym:=i.text) (least:=i.prio) (f:=f) (t:=f+1+j) hy hB
    replace hL:=Hold.mk hL;replace hkN:=Hold.mk hkN;replace hsj:=Hold.mk hsj;have hnx2:=Hold.mk hnext;replace htro:=Hold.mk htro;replace hnx1:=Hold.mk hnx1;clear hca hnext hnx htr
    (repeat' (first | (refine hcn _ (fun B' hB y15 y6 y9 y14=>?_)) | (refine htr0 _ _ hB (fun Hy By r1 r2 r3 r4 r5 hIy hsy hty=>?_)) | (simp only [↓Yt,↓Ya,↓Ye,↓JE,↓ZZ,↓Yb,↓Yv,↓Ys,↓ZhI,↓ZY,↓ZF,↓ZD,↓ZG,↓ZH,↓ZJ,↓ZI,↓ZP,↓ZU,↓Zv,↓ZS,↓Yy,↓s_un,↓Wp,↓ZA,↓ZK,↓ZL,↓Yj,↓YV,↓Yz,ptrV,boolV,Zmd,Zmg,Zmi,Zml,ite_true,ite_false,Zl9,Zma,Zmj,Zmu,ne_eq,not_false_eq_true,true_and,Zme,decide_true,ZmK,ZT,fillV,setAt,eq_self,Zmh,Zmo,Zmb,and_self,ZmC,ZmD,Yq,XV,YB,Zmn,Zmy,Zmc,Yn,YK,Yo,Yp,YG,ZT,XH,XQ,XZ,Wl,Yd,YT,Wb,ZaI,ZbA,ZbF,en_44, *])))
    obtain ⟨X,hX⟩:∃ X,X=T i.text i.prio f (f+1+j):=⟨_,rfl⟩
    obtain ⟨I,hIe⟩:∃ I,I=itsG l (hasF g dn) T is (f+1+j) t:=⟨_,rfl⟩
    have hsj2:=hsj.out;rw [← hX,← hIe] at hsj2
    have hL2:L.drop kj=X.flatMap (fun x=>I.map fun ks=>Tn.mk q 0 ((kids++[x])++ks))++(((List.range' (j+1) (t-f-(j+1))).flatMap (symJ l (hasF g dn) T i is f t)).map (fun ks=>Tn.mk q 0 (kids++ks))++M):=by
     have h:=hL.out;rw [hsj2,List.map_append,Zm7,List.map_flatMap] at h;rw [h]
     congr 2
     funext x
     rw [List.map_map];refine List.map_congr_left fun ks _=>?_
     show Tn.mk q 0 (kids++x::ks)=_;rw [Zm7]; rfl
    have hlen:∀ x∈X,(I.map fun ks=>Tn.mk q 0 ((kids++[x])++ks)).length=I.length:=fun x _=>List.length_map ..
    have hk2:kj+X.length * I.length+((List.range' (j+1) (t-f-(j+1))).flatMap (symJ l (hasF g dn) T i is f t)).length=kN:=by
     have h:=hkN.out;rw [hsj2,ZmB,Za5 (n:=I.length) (fun x _=>List.length_map ..)] at h;omega
    have hend:L.drop (kj+X.length * I.length)=((List.range' (j+1) (t-f-(j+1))).flatMap (symJ l (hasF g dn) T i is f t)).map (fun ks=>Tn.mk q 0 (kids++ks))++M:=by
     rw [← List.drop_drop,hL2,List.drop_left' (Za5 hlen)]
    have htr1:=htro.out;have hni:=hnx1.out;unfold ZaU at hni;rw [his,← hIe] at hni;rw [← hX] at htr1;refine ZhZ (fun u' H'=>(∀ i,i<16→u' i=u i)∧u' 84=trV r1 r2 r3 r4 r5∧Inv (some kj) Hy H') ⟨(by intro i hi; simp only [Zv]; repeat rw [if_neg (by omega)]),(by simp only [Zv,Zl9,if_true,if_false, *]<;>rfl),hIy⟩ ?_;rintro u' By ⟨hu,u84,hIy⟩;have u6:=(hu 6 (by omega)).trans t6;have u7:=(hu 7 (by omega)).trans t7;have u8:=(hu 8 (by omega)).trans t8;have u9:=(hu 9 (by omega)).trans t9;have u10:=(hu 10 (by omega)).trans t10;have u11:=(hu 11 (by omega)).trans t11;have u12:=(hu 12 (by omega)).trans t12;have u15:=(hu 15 (by omega)).trans t15;replace hu:=Hold.mk hu;clear hL hkN hsj hsj2 htro hnx1 htr0 hcn hX hIe q6 q7 q8 q9 q10 q11 q12 q14 q15 hI hB y15 y6 y9 y14 hqs t6 t7 t8 t9 t10 t11 t12 t14 t15 hR hn hrj hwj;refine Zcf rfl (.inl u84) (by kernel_rfl) ?_;intro r l1 fn ca cb hca hcb' hr hl1 hne hfn;have hsB:=hy.sub hIy;have hyr:Hy r=none:=hsB.none hr;have hyl1:Hy l1=none:=hsB.none hl1;obtain ⟨Hk,hHk⟩:∃ Hk,Hk=Hy.set r (.obj (.deferred (some []))):=⟨_,rfl⟩
    have hIk:=hy.al _ _ _ r (.obj (.deferred (some []))) hIy hr;rw [← hHk] at hIk;have hyk:SubH Hy Hk:=by rw [hHk]; exact SubH.new hyr
    have hkl:Hk l1=none:=by rw [hHk,AH.set_ne _ _ hne]; exact hyl1
    have hck:SubH Hc Hk:=hy.low hIk;have hqk:=hsy.trans hyk;have hzk:=hzq.trans hqk;have hfk:FCh g l dn rc rk Hk:=hy.fch hc hIk;refine htr1 Hk hfk (VI Inv Hk l1 fn 139 u' #[85] ca cb r fun j'=>kj+j' * I.length) X l1 (VI.yi hy hck) ?_ 0 [] Hk _ _ r1 r2 r3 r4 r5 (by simp) ?_ (hyk _ _ hty.1) (hyk _ _ hty.2.1) (hyk _ _ hty.2.2.1) (hyk _ _ hty.2.2.2.1) (hyk _ _ hty.2.2.2.2) ?_ ?_
    ·rintro j' hj' Hk' B hv K' k1 k2;have hv0:=hv;obtain ⟨b1,b2,b3,b4⟩:=hv;refine ZaD (l:=l1) (pe:=none) (fn:=fn) (N:=139) (t:=u') (ps:=#[85]) («asg»:=ca) (bd:=cb) (ds:=r) b1 rfl (by simp) hfn ?_;refine ZeY hca ?_;have hdrop:=ZlL hL2 hlen hj';generalize X[j']=x at *
     replace hv0:=Hold.mk hv0;replace hdrop:=Hold.mk hdrop;replace hL2:=Hold.mk hL2;replace hend:=Hold.mk hend;replace k1:=Hold.mk k1;replace k2:=Hold.mk k2
     have hzB:SubH Hz B:=(hzk.trans b3).trans fun i b hi=>by
      have h:=hy.sub b4 _ _ hi;rw [AH.del_get] at h;split at h
      ·cases h
      ·exact h
     (repeat' (first | (simp only [↓Zt,Zu,ptrV,Zl9,Zma,Zmj,setAt,Zap,ZbD,XE, *]) | (refine YL rfl (fun _ _ _ h=>h) ?_) | (refine Zw fun zr zh=>?_; have zg:=zh; (try simp only [AH.set_none] at zg); (try have zn_b1:=AH.ne_of b1 zh); (try have zn_b1:=AH.ne_of b1 zg.2); (try have zn_b1:=AH.ne_of b1 zg.2.2); (try have zn_b1:=AH.ne_of b1 zg.2.2.2); (try have zn_b1:=AH.ne_of b1 zg.2.2.2.2)) | (with_reducible refine And.intro ?_ ?_)))
     ·exact ⟨none,rfl⟩
     ·intro pe;refine ZeY hcb' ?_;obtain ⟨e1,e2,e3,e4⟩:=VI.enter hy hv0.out zh (.cells 44 [iV x.prod,iV x.tok,encS tnE x.kids] 0) (.loop .busy pe fn 139 u' #[85] ca cb r);have e5:((Hk'.set zr (.cells 44 [iV x.prod,iV x.tok,encS tnE x.kids] 0)).set l1 (.loop .busy pe fn 139 u' #[85] ca cb r)) l1=some (.loop .busy pe fn 139 u' #[85] ca cb r):=AH.set_same _ _ _;show ACx _ _ _ _ ((B.set zr (.cells 44 [iV x.prod,iV x.tok,encS tnE x.kids] 0)).set l1 (.loop .busy pe fn 139 u' #[85] ca cb r));obtain ⟨Bz,hBz⟩:∃ Bz,Bz=(B.set zr (.cells 44 [iV x.prod,iV x.tok,encS tnE x.kids] 0)).set l1 (.loop .busy pe fn 139 u' #[85] ca cb r):=⟨_,rfl⟩
      obtain ⟨Hz2,hHz2⟩:∃ Hz2,Hz2=(Hk'.set zr (.cells 44 [iV x.prod,iV x.tok,encS tnE x.kids] 0)).set l1 (.loop .busy pe fn 139 u' #[85] ca cb r):=⟨_,rfl⟩
      rw [← hBz];rw [← hBz,← hHz2] at e1;rw [← hHz2] at e2 e3 e5;clear hBz hHz2 zh zg hzB;have hsz:=hy.sub e1;have hz2:SubH Hz Hz2:=(hzk.trans b3).trans e2;have q6:=hsz _ _ (hz2 _ _ z6);have q7:=hsz _ _ (hz2 _ _ z7);have q8:=hsz _ _ (hz2 _ _ z8);have q9:=hsz _ _ (hz2 _ _ z9);have q10:=hsz _ _ (hz2 _ _ z10);have q11:=hsz _ _ (hz2 _ _ z11);have q15:=hsz _ _ (e2 _ _ (b3 _ _ (hqk _ _ x15)));have q16:=hsz _ _ e3
      have hcall:∀ v' H2,OwnX Bz H2 44 3 v' (kids.length+1) (encC tnE kids++[iV x.prod,iV x.tok,encS tnE x.kids])→∀ K2:VE→AH→Prop,(∀ Hb' B',Inv (some (kj+j' * I.length+I.length)) Hb' B'→SubH Hz2 Hb'→B' l1=some (.loop .busy pe fn 139 u' #[85] ca cb r)→K2 (.ret (boolV true)) B')→(∀ Hb' B',Inv none Hb' B'→SubH Hz2 Hb'→B' l1=some (.loop .busy pe fn 139 u' #[85] ca cb r)→B' r12=some (.cells 4 [boolV false] 0)→K2 (.ret (boolV false)) B') →
       ZO Try.prog 85 [ptrV rc 0,iV q,iV (dot+1:Nat),.agg [iV (f+1+j:Nat),iV t],v',yV l0] H2 K2:=fun v' H2 ho K2 g1 g2=>by
       refine WT (GhL.cons (GhV.refl _ _) (GhL.cons (GhV.refl _ _) (GhL.cons (GhV.refl _ _) (GhL.cons (GhV.refl _ _) (GhL.cons (GhV.own ho) (GhL.cons (GhV.refl _ _) (GhL.nil _))))))) ?_;have h:=hni (kids++[x]) Inv L l0 hy hyo (by rw [ZmB]; simp; omega) (kj+j' * I.length) _ Hz2 Bz K2 hdrop.out e1 (fun Hb' B' h1 h2=>g1 Hb' B' h1 h2 (hy.sub h1 _ _ (h2 _ _ e5))) (fun Hb' B' h1 h2=>g2 Hb' B' h1 h2 (hy.sub h1 _ _ (h2 _ _ e5)) (hy.sub h1 _ _ (h2 _ _ (hz2 _ _ z12))));rw [Zje] at h;exact h
      have hclp:=Zjb kids.length (encC tnE kids);clear hni hnx2 hv0 hdrop hL2 hend hlen htr1;replace e1:=Hold.mk e1;replace hk2:=Hold.mk hk2
      (repeat' (first | (simp only [↓Zt,Zu,ptrV,Zl9,Zma,Zmj,Zm8,Zmu,↓Xm,ZT,fillV,setAt,Zmb,↓XM,ZB,ZT,ZB,XH,Yd,YT,ZaH,Zdm,ZeW,ZaI,XE,Xt,en_105, *]) | (refine YL rfl (fun _ _ _ h=>h) ?_) | (refine Yf mixed (fun _ _ _ _ e h=>⟨e.trans h.1,h.2⟩) _ (SubH.refl _) ?_) | (exact SubH.refl _) | (refine PureF.use (hclp) ?_) | (with_reducible refine And.intro ?_ ?_)))
      refine WP Xt XE rfl (by omega) (YO ZcB kids) (m:=1) (news:=[iV x.prod,iV x.tok,encS tnE x.kids]) rfl rfl (by omega) (by omega) (fun h=>by omega) (fun _ v' H2 ho=>?_);have hos:=ho.sub;replace ho:=Hold.mk ho
      (repeat' (first | (refine hcall _ _ ho.out _ (fun Hb' B' hB hsb yl1=>?_) (fun Hb' B' hB hsb yl1 y12=>?_)) | (simp only [↓Yt,↓Ya,↓Ye,↓ZZ,↓Yb,↓Yv,↓Xe,↓ZY,↓ZF,↓ZD,↓Jg,↓ZcV,↓ZG,↓ZH,↓YX,↓ZJ,↓YY,↓ZI,↓ZP,↓ZU,↓Zv,↓YR,↓s_un,↓ZK,↓ZL,↓Yj,ptrV,boolV,Zmd,Zmg,Zmi,Zml,ite_true,ite_false,Zl9,Zma,true_and,Zme,ZmK,ZmG,↓Xc,setAt,Zmz,ZmJ,Zmp,eq_self,Zmh,ZaQ,ZaR,Zmn,Zmc,Wf,Wg,↓XM,Zff,ZlZ, *])))
      ·have h:=VI.back (Hy:=Hk) hy hck b2 b3 e2 e5 hsb hB (.loop .ready none fn 139 u' #[85] ca cb r);rw [show kj+j' * I.length+I.length=kj+(j'+1) * I.length from by rw [Nat.succ_mul]; omega] at h;exact ⟨⟨pe,yl1⟩,k1.out _ ⟨AH.set_same _ _ _,b2,b3,h⟩⟩
      ·show Zic l1 fn 139 u' #[85] ca cb r K' .ret _ (B'.set r12 (.cells 4 [boolV false] 0));rw [AH.set_id y12];exact ⟨⟨pe,yl1⟩,k2.out _ ⟨AH.set_same _ _ _,b2,b3,VI.back (Hy:=Hk) hy hck b2 b3 e2 e5 hsb hB (.loop .done (some .ret) fn 139 u' #[85] ca cb r)⟩⟩
    ·refine ⟨AH.set_same _ _ _,hkl,SubH.refl _,?_⟩;rw [AH.del_set _ _ _ (by rw [AH.set_ne _ _ hne]; exact hl1)];simpa using hIk
    ·rintro Hb' B' v ⟨b1,b2,b3,b4⟩ hsb;refine ⟨.ready,none,b1,by simp,?_⟩;show ACx itX Zl5 _ _ _;refine hnx2.out u' (r::rs) Hb' _ _ hu.out b4 ?_ ?_ ?_ ?_ ?_
     ·exact hqk.trans hsb
     ·refine List.nodup_cons.2 ⟨fun h=>?_,hnd.out⟩
      have:=hsy _ _ (hrs.out r h).1
      rw [hyr] at this; cases this
     ·intro r' hr';rcases List.mem_cons.1 hr' with rfl | hr'
      ·exact ⟨hsb _ _ (by rw [hHk]; exact AH.set_same _ _ _),(hbz.trans (hzq.trans hsy)).none hyr⟩
      ·exact ⟨hsb _ _ (hqk _ _ (hrs.out r' hr').1),(hrs.out r' hr').2⟩
     ·show L.drop (kj+(0+X.length) * I.length)=_;rw [Zmh]; exact hend
     ·show kj+(0+X.length) * I.length+_=_;rw [Zmh]; exact hk2
    ·rintro Hb' B' v ⟨b1,b2,b3,b4⟩ hsb;refine ⟨.done,some .ret,b1,by simp,?_⟩;show WB Try.prog [.cell 12 4] K u' ((r::rs).map WL) .returning (B'.del l1);refine XS hy hcb u12 hF.out (r::rs) Hb' _ b4 (hsb _ _ (hzk _ _ z12)) ((hbz.trans hzk).trans hsb) (List.nodup_cons.2 ⟨fun h=>?_,hnd.out⟩) ?_
     ·have:=hsy _ _ (hrs.out r h).1
      rw [hyr] at this; cases this
     ·intro r' hr';rcases List.mem_cons.1 hr' with rfl | hr'
      ·exact ⟨hsb _ _ (by rw [hHk]; exact AH.set_same _ _ _),(hbz.trans (hzq.trans hsy)).none hyr⟩
      ·exact ⟨hsb _ _ (hqk _ _ (hrs.out r' hr').1),(hrs.out r' hr').2⟩
 ·have hle:¬ ((f+1+j:Nat):Int)≤(t:Int):=by omega
  have hrj:t-f-j=0:=by omega
  rw [hrj] at hL hkN;have hk0:kj=kN:=hkN;rw [hk0] at hI;replace hT:=Hold.mk hT;replace hF:=Hold.mk hF;replace hI:=Hold.mk hI;replace hR:=Hold.mk hR;clear hL hkN hn
  (repeat' (first | (simp only [↓Zt,Zu,ptrV,Zl9,Zma,Zmb,XH,Yd, *])))
  delta c85_2 Zr;dsimp only [itX];refine YL rfl (fun _ _ _ h=>h) ?_
  (repeat' (first | (simp only [↓Zt,Zu,ptrV,boolV,Zl9,setAt,ZaQ,ZaR,Zff, *])))
  exact XS hy hcb (by assumption) hT.out rs _ _ (hy.put hI.out (hzq _ _ z12) (hcb.none n12)) (AH.set_same _ _ _) ((hbz.trans hzq).of_set n12) hnd (fun r hr=>by
   obtain ⟨h1,h2⟩:=hrs r hr;exact ⟨(AH.set_ne _ _ (fun e=>by subst e; rw [hzq _ _ z12] at h1; cases h1)).trans h1,h2⟩)
theorem items_4c (hc:FCh g l dn rc rk Hc) (hd:DOk g l dn) (hy:Yi g l dn rk Hc Inv) {T:ByteArray→Int→Nat→Nat→List Tn} (hq:q<g.length) {i:It} {is:List It} (hit:(pdAt g q).items.drop dot=i::is) (hft:f<t) (htl:t≤l.length) (hk1:¬ i.kind=1) (hk2:¬ i.kind=2) (hkd:kids.length≤dot) (hcb:SubH Hc Hb) {L M:List Tn} (hyo:YOk (yV l0) Inv L) {k:Nat}
 (hnx:∀ to,f<to→to≤t→ZaU g l dn rc rk Hc T q (dot+1) to t)
 (htr:∀ to,f<to→to≤t→canL l (hasF g dn) is to t=true→∀ Hc',FCh g l dn rc rk Hc'→Zd1 g l dn rc rk Hc' (T i.text i.prio f to) i.text i.prio f to [])
 {A:AF} (hA:A.d=[]) (hI:Inv (some k) Hx Bx) (ha:ItA Inv Hb q dot f t kids l0 rc r6 r7 r8 r9 r10 r11 r12 A Hx) (t13:A.t 13=itsV (pdAt g q).items)
 (hL:L.drop k=((Zmm (t-f)).flatMap (symJ l (hasF g dn) T i is f t)).map (fun ks=>Tn.mk q 0 (kids++ks))++M)
 (hT:∀ Hb' B',Inv (some (k+((Zmm (t-f)).flatMap (symJ l (hasF g dn) T i is f t)).length)) Hb' B'→SubH Hb Hb'→K (.ret (boolV true)) B') (hF:∀ Hb' B',Inv none Hb' B'→SubH Hb Hb'→K (.ret (boolV false)) B'):ACx itX cI4 (itQ K) A Bx:=by
 dsimp only [itX,cI4,cI3,cI2,cI1,tailS,c85,Zj,Zi,Zb,Zq,Zr,Zd,Zk,Zc,Za,Ze,Zn,Zp,Zg,Zo,Zm,Zl];have hs:=hy.sub hI;have q9:=hs _ _ ha.x9;have q8:=hs _ _ ha.x8;have hcz:Hc r12=none:=hcb.none ha.n12;have hil:=WK hd.gok hq;have hnl:=hd.gok.n
 have hlt:dot<(pdAt g q).items.length:=by
  rcases ZmI dot (pdAt g q).items.length with h | h
  ·exact h
  ·rw [Znb h] at hit; cases hit
 have hdi:=ZbB hlt;have hil2:(dot:Int)<((pdAt g q).items.length:Int):=by omega
 have hi0:(pdAt g q).items[dot]=i:=by rw [ZmY hlt] at hit; exact (List.cons.inj hit).1
 have his:(pdAt g q).items.drop (dot+1)=is:=by rw [ZmY hlt] at hit; exact (List.cons.inj hit).2
 rw [hi0,his] at hdi;clear hi0;obtain ⟨u,d⟩:=A;have ha0:=ha;obtain ⟨t6,t7,t8,t9,t10,t11,t12,_,_,_,_,_,_,_,_,_⟩:=ha;dsimp only at hA t6 t7 t8 t9 t10 t11 t12 t13;subst hA;refine YL rfl (fun _ _ _ h=>h) ?_;have hwf:IntKind.wrap .i64 ((f:Int)+1)=((f+1:Nat):Int):=by rw [ZQ (by omega) (by omega)]; rfl
 replace hT:=Hold.mk hT;replace hF:=Hold.mk hF;replace hI:=Hold.mk hI;replace hL:=Hold.mk hL;replace hit:=Hold.mk hit;replace his:=Hold.mk his;replace ha0:=Hold.mk ha0;have hk1i:¬ i.kind=1:=hk1
 (repeat' (first | (simp only [↓Zt,Zu,ptrV,Zl9,Zma,Zmj,setAt,Zmb,Zm3,Wl,Xd,Yd,JD,Zfd,WU,Wv,Xp,Xu, *]) | (refine Zw fun zr zh=>?_; have zg:=zh; (try simp only [AH.set_none] at zg); (try have zn_q8:=AH.ne_of q8 zh); (try have zn_q8:=AH.ne_of q8 zg.2); (try have zn_q8:=AH.ne_of q8 zg.2.2); (try have zn_q8:=AH.ne_of q8 zg.2.2.2); (try have zn_q8:=AH.ne_of q8 zg.2.2.2.2); (try have zn_q9:=AH.ne_of q9 zh); (try have zn_q9:=AH.ne_of q9 zg.2); (try have zn_q9:=AH.ne_of q9 zg.2.2); (try have zn_q9:=AH.ne_of q9 zg.2.2.2); (try have zn_q9:=AH.ne_of q9 zg.2.2.2.2))))
 rename_i r14 n14 g14 a1 a2;have hs0:=hy.sub hI.out;have hx14:Hx r14=none:=hs0.none n14;have hxz:Hx zr=none:=hs0.none zg.2;have hbz:SubH Hx (Hx.set r14 (.cells 64 (itE i) 0)):=SubH.new hx14;refine Zj2 (M:=M) (n:=t-f) (kN:=k+((Zmm (t-f)).flatMap (symJ l (hasF g dn) T i is f t)).length) hc hd hy hq his.out hlt hft htl hkd hcb hyo hnx htr (ha0.out.sub.trans hbz) (hbz _ _ ha0.out.x6) (hbz _ _ ha0.out.x7) (hbz _ _ ha0.out.x8) (hbz _ _ ha0.out.x9) (hbz _ _ ha0.out.x10) (hbz _ _ ha0.out.x11) (hbz _ _ ha0.out.c12) ha0.out.n12 (AH.set_same _ _ _) ?_ hT.out hF.out;exact ⟨(by simp only [Zv,Zl9,if_false, *]<;>rfl),(by simp only [Zv,Zl9,if_false, *]<;>rfl),(by simp only [Zv,Zl9,if_false, *]<;>rfl),(by simp only [Zv,Zl9,if_false, *]<;>rfl),(by simp only [Zv,Zl9,if_false, *]<;>rfl),(by simp only [Zv,Zl9,if_false, *]<;>rfl),(by simp only [Zv,Zl9,if_false, *]<;>rfl),(by simp only [Zv,Zl9,if_true,if_false, *]<;>rfl),0,zr,[],_,k,(Nat.sub_zero _).symm,ZmU _,(by simp only [Zv,Zl9,if_true,if_false, *]<;>rfl),rfl,hy.al _ _ _ zr (.cells 3 [iV (f+1:Nat)] 0) (hy.al _ _ _ r14 (.cells 64 (itE i) 0) hI.out n14) zh,SubH.new (by rw [AH.set_ne _ _ zg.1.1]; exact hxz),AH.set_same _ _ _,Zm0,(fun _ h=>by cases h),by rw [Nat.sub_zero,← List.range_eq_range']; exact hL.out,by rw [Nat.sub_zero,← List.range_eq_range']⟩
end
end Go.PV.Ytfkkmdelpddojaa
end
