/- Part 7 of 10 of what the proof of Prio needs. -/
import Derived.Test.YtfkkmdelpddojaaPrio6
set_option linter.unusedVariables false
set_option linter.unusedSimpArgs false
set_option linter.defProp false
section
open Int renaming toNat_natCast→Zmw,natCast_nonneg→ZmL
open List renaming getElem_mem→ZmE,nodup_nil→Zm0,map_cons→Zmd,map_nil→Zmg,getD_cons_zero→Zmq,getD_cons_succ→Zmr,getD_nil→Zms,drop→Zmb,length_cons→Zmi,length_nil→Zml,getElem?_cons_zero→ZmC,getElem?_cons_succ→ZmD,set_cons_zero→Zmn,set_cons_succ→Zmy,take_of_length_le→ZmQ
open Nat renaming zero_le→ZmU,reduceEqDiff→Zl9,reduceLT→Zma,succ_ne_self→Zme,mul_one→ZmM,reduceAdd→Zmj,reduceLeDiff→Zmu,zero_add→Zmh,le_refl→Zmc
set_option maxRecDepth 20000
set_option maxHeartbeats 4000000
namespace Go.PV.Ytfkkmdelpddojaa
open Go Go.Proofs
structure GOk (g:List Pd) (n:Nat):Prop where
 len:g.length≤12
 its:∀ p∈g,p.items.length≤30
 txt:∀ p∈g,p.left.size≤100∧∀ i∈p.items,i.text.size≤100
 pos:∀ p∈g,1≤p.items.length
 n:n≤20
def okS (g:List Pd) (n:Nat) (x:St):Prop:=x.prod<g.length∧x.dot≤(pdAt g x.prod).items.length∧x.start≤n
structure Gd (g:List Pd) (n:Nat) (C:Ch):Prop where
 nd:∀ i,i≤n→(C.sets i).st.Nodup
 ok:∀ i,i≤n→∀ x∈(C.sets i).st,okS g n x
theorem WK {g:List Pd} {n:Nat} (hG:GOk g n) {k:Nat} (h:k<g.length):(pdAt g k).items.length≤30:=by rw [Xa h]; exact hG.its _ (ZmE h)
theorem ZgD {g:List Pd} {n:Nat} (hG:GOk g n) {x:St} (h:okS g n x):stOk x:=by
 obtain ⟨h1,h2,h3⟩:=h
 have:=WK hG h1
 have:=hG.len
 have:=hG.n
 exact ⟨by omega,by omega,by omega⟩
def codeS (x:St):Int:=((x.prod * 32+x.dot) * 32+x.start:Nat)
theorem Zej {α:Type} {f:α→Int}:∀ {l:List α},l.Nodup→(∀ a∈l,∀ b∈l,f a=f b→a=b)→(l.map f).Nodup
 | [],_,_=>Zm0
 | x::l,h,hi=>by
   rw [Zmd,List.nodup_cons];have h':=List.nodup_cons.1 h;refine ⟨fun hm=>?_,Zej h'.2 fun a ha b hb=>hi a (by simp [ha]) b (by simp [hb])⟩;obtain ⟨a,ha,e⟩:=List.mem_map.1 hm
   have:=hi a (by simp [ha]) x (by simp) e
   subst this;exact h'.1 ha
theorem Gd.len {g:List Pd} {n:Nat} {C:Ch} (hG:GOk g n) (h:Gd g n C) {i:Nat} (hi:i≤n):(C.sets i).st.length≤20000:=by
 have hb:∀ x∈(C.sets i).st,x.prod<12∧x.dot≤30∧x.start≤20:=fun x hx=>by
  obtain ⟨h1,h2,h3⟩:=h.ok i hi x hx
  have:=WK hG h1
  have:=hG.len
  have:=hG.n
  exact ⟨by omega,by omega,by omega⟩
 have h1:((C.sets i).st.map codeS).Nodup:=Zej (h.nd i hi) fun a ha b hb' e=>by
  obtain ⟨a1,a2,a3⟩:=hb a ha;obtain ⟨b1,b2,b3⟩:=hb b hb';unfold codeS at e;obtain ⟨p,q,r⟩:=a;obtain ⟨p',q',r'⟩:=b;simp only [St.mk.injEq] at *
  omega
 have h2:=JZ (n:=20000) h1 fun q hq=>by
  obtain ⟨x,hx,rfl⟩:=List.mem_map.1 hq;obtain ⟨a1,a2,a3⟩:=hb x hx;unfold codeS;omega
 simpa using h2
theorem Gd.add {g:List Pd} {n:Nat} {C:Ch} (h:Gd g n C) {i:Nat} {x:St} (hx:okS g n x):Gd g n (C.add i x):=by
 unfold Ch.add;split
 ·exact h
 ·rename_i hm;refine ⟨fun j hj=>?_,fun j hj y hy=>?_⟩
  ·show (upS _ _ _ j).st.Nodup;unfold upS;split
   ·rename_i e; subst e;show ((C.sets j).st++[x]).Nodup;rw [List.nodup_append];refine ⟨h.nd j hj,by simp,fun a ha b hb=>?_⟩;rw [List.mem_singleton.1 hb];rintro rfl;exact hm ha
   ·exact h.nd j hj
  ·have hy:y∈(upS C.sets i { C.sets i with st:=(C.sets i).st++[x] } j).st:=hy;unfold upS at hy;split at hy
   ·rename_i e; subst e;rcases List.mem_append.1 hy with hy | hy
    ·exact h.ok j hj y hy
    ·rw [List.mem_singleton.1 hy]; exact hx
   ·exact h.ok j hj y hy
theorem add_wt (C:Ch) (i j:Nat) (x:St):((C.add i x).sets j).wt=(C.sets j).wt:=by
 unfold Ch.add;split
 ·rfl
 ·show (upS _ _ _ j).wt=_;unfold upS;split
  ·rename_i e; rw [e]
  ·rfl
theorem add_done (C:Ch) (i:Nat) (x:St):(C.add i x).done=C.done:=by
 unfold Ch.add
 split<;>rfl
def predK (g:List Pd) (at_:Nat) (least:Int) (C:Ch) (k:Int):Ch:=if least≤(pdAt g k).prio then C.add at_ ⟨k.toNat,0,at_⟩ else C
def predF (g:List Pd) (by_:ByteArray→List Int) (at_:Nat) (sym:ByteArray) (least:Int) (C:Ch):Ch:=(by_ sym).foldl (predK g at_ least) C
theorem Gd.predK {g:List Pd} {n at_:Nat} {least:Int} {C:Ch} {k:Int} (h:Gd g n C) (ha:at_≤n) (hk:0≤k∧k<(g.length:Int)):Gd g n (predK g at_ least C k):=by
 unfold Go.PV.Ytfkkmdelpddojaa.predK;split
 ·exact h.add ⟨by show k.toNat<_; omega,ZmU _,ha⟩
 ·exact h
theorem ZfB {α β:Type} (f:β→α→β) (b:β) {l:List α} {i:Nat} (h:i<l.length):(l.take (i+1)).foldl f b=f ((l.take i).foldl f b) l[i]:=by rw [XK h,List.foldl_append]; rfl
def slV (l:List Int) (v:VV):VV:=if l=[] then .lit (.slice none 0 0) else v
theorem ZfC {H0 H:AH} {g:List Pd} {l:List Tk} {n at_ r3 r4 r5:Nat} {p:Par} {by_:ByteArray→List Int} {C:Ch} {sym:ByteArray} {least:Int} {K:VE→AH→Prop} (hG:GOk g n) (hgd:Gd g n C) (hat:at_≤n) (hby:∀ k∈by_ sym,0≤k∧k<(g.length:Int)) (hbl:(by_ sym).length≤20000) (hsz:sym.size≤maxLen)
 (h3:H0 r3=some (.cells 148 [mapV p.rb] 0)) (h4:H0 r4=some (.cells 30 [pdsV g] 0)) (h5:H0 r5=some (.cells 93 [ptrV p.rc 0] 0)) (h:RSat H0 H g l n p by_ C)
 (hK:∀ H',RSat H0 H' g l n p by_ (predF g by_ at_ sym least C)→K (.ret (.tuple [])) H'):ZO Try.prog 77 [iV at_,sV sym,iV least,ptrV r3 0,ptrV r4 0,ptrV r5 0] H K:=by
 refine Zy fd77 (by simp) ?_;delta c77 Zb Za Zq Zr Ze;have q3:=h.keep h3;have qb:H p.rb=some (.map (ZW Try.prog 148) (smap fun s=>if by_ s=[] then none else some (p.vb s))):=by obtain ⟨vs,B,h⟩:=h; exact h.ob.at_ _ _ _ h.bm
 have hlk:∀ (H':AH) (K':VE→AH→Prop),H' p.rb=some (.map (ZW Try.prog 148) (smap fun s=>if by_ s=[] then none else some (p.vb s)))→K' (.ret (slV (by_ sym) (p.vb sym))) H'→XP Try.prog 148 (mapV p.rb) (sV sym) false H' K':=fun H' K' hr hk=>by
  refine Zed smBy hsz hr (fun y hy=>?_) (fun hy=>?_)
  ·by_cases e:by_ sym=[]
   ·rw [if_pos e] at hy; cases hy
   ·rw [if_neg e] at hy; cases hy;unfold slV at hk; rw [if_neg e] at hk; exact hk
  ·by_cases e:by_ sym=[]
   ·unfold slV at hk; rw [if_pos e] at hk; exact hk
   ·rw [if_neg e] at hy; cases hy
 have hrd:∀ {H':AH} {C':Ch},RSat H0 H' g l n p by_ C'→SlR H' (slV (by_ sym) (p.vb sym)) (by_ sym).length (encC intE (by_ sym)):=fun {H' C'} h'=>by
  obtain ⟨vs,B,h'⟩:=h';unfold slV;by_cases e:by_ sym=[]
  ·rw [if_pos e,e]; exact .inr (.inl ⟨rfl,rfl,rfl⟩)
  ·rw [if_neg e]; exact (h'.bs sym).read h'.ob
 have hr0:=hrd h;generalize slV (by_ sym) (p.vb sym)=v at *
 unfold predF at hK;generalize by_ sym=ks at *
 replace h:=Hold.mk h;replace hK:=Hold.mk hK
 (repeat' (first | (refine hlk _ _ (by assumption) ?_) | (simp only [↓Ya,↓Ye,↓Ys,↓Zcv,↓ZY,↓ZF,↓ZD,↓ZG,↓ZH,↓ZJ,↓ZI,↓ZP,↓Zv,↓ZR,↓ZS,↓Wn,↓ZX,↓Xk,ptrV,intV,Zmd,Zmg,Zmq,Zmr,Zms,ite_true,ite_false,Zl9,Zma,true_and,Zme,Zx,eq_self,Zmb,Yq,Yn,Yo,Yp,undef,ZkC, *]) | (refine hr0.len (by simp [YA]) ?_)))
 refine YJ (fun _ _ _ h=>h) (fun A H'=>A.d=[]∧A.t 0=iV at_∧A.t 2=iV least∧A.t 4=ptrV r4 0∧A.t 5=ptrV r5 0∧A.t 13=v∧A.t 14=iV ks.length∧∃ i:Nat,i≤ks.length∧A.t 15=iV i∧RSat H0 H' g l n p by_ ((ks.take i).foldl (predK g at_ least) C)∧Gd g n ((ks.take i).foldl (predK g at_ least) C))
  (fun A _=>match A.t 15 with | .lit (.int _ i)=>((ks.length:Int)-i).toNat | _=>0) ?_ ?_
 ·exact ⟨rfl,(by simp only [Zv,Zl9,if_false, *]<;>rfl),(by simp only [Zv,Zl9,if_false, *]<;>rfl),(by simp only [Zv,Zl9,if_false, *]<;>rfl),(by simp only [Zv,Zl9,if_false, *]<;>rfl),(by simp only [Zv,Zl9,if_true,if_false, *]<;>rfl),(by simp only [Zv,Zl9,if_true,if_false, *]<;>rfl),0,by omega,(by simp only [Zv,Zl9,if_true,if_false, *]<;>rfl),h.out,hgd⟩
 ·clear hr0 q3 qb hlk h hgd;rintro ⟨t,d⟩ H' ⟨rfl,h0,h2,h4',h5',h13,h14,i,hi,h15,hR,hgd⟩;dsimp only at h0 h2 h4' h5' h13 h14 h15;have hr0:=hrd hR;have q4:=hR.keep h4;have q5:=hR.keep h5;delta b77_1 Zn Zr Zk Zb Zc Za Zd Zq Zo Zm;by_cases hlt:i<ks.length
  ·have hil:(i:Int)<(ks.length:Int):=by omega
   have hfs:=ZfB (predK g at_ least) C hlt;generalize (ks.take i).foldl (predK g at_ least) C=C1 at *
   obtain ⟨k0,k1⟩:=hby _ (ZmE hlt);obtain ⟨k,hk⟩:∃ k:Nat,ks[i]=(k:Int):=⟨ks[i].toNat,by omega⟩
   have hkl:k<g.length:=by omega
   have hkl':(k:Int)<(g.length:Int):=by omega
   have hdi:=WG hkl;have hgd2:=hgd.predK (least:=least) hat (hby _ (ZmE hlt));rw [← hfs] at hgd2
   have hld:ldV 1 false ((encC intE ks).drop ((i:Int).toNat * 1))=some (iV k):=by
    rw [Zmw,ZmM,JO hlt,hk]; rfl
   have hadd:=fun H' K'=>Zkv (H0:=H0) (C:=C1) (g:=g) (K:=K') (H:=H') (x:=⟨k,0,at_⟩) (l:=l) (p:=p) (by_:=by_) (by have:=hG.n; omega) hat (ZgD hG (g:=g) (n:=n) ⟨hkl,ZmU _,hat⟩) (by have:=hgd.len hG hat; omega)
   have hpk:predK g at_ least C1 ks[i]=if least≤g[k].prio then C1.add at_ ⟨k,0,at_⟩ else C1:=by unfold predK; rw [hk,Xa hkl,Zmw]
   rw [hpk] at hfs;replace hR:=Hold.mk hR;replace hgd2:=Hold.mk hgd2;replace hfs:=Hold.mk hfs;clear hpk hk hgd;by_cases hle:least≤g[k].prio
   ·(repeat' (first | (refine hadd _ _ hR.out (fun H2 hR2=>?_)) | (simp only [↓Yt,↓Ya,↓Ye,↓ZZ,↓Yb,↓Ys,↓ZY,↓ZF,↓ZD,↓Jg,↓ZG,↓ZH,↓ZJ,↓ZI,↓ZP,↓ZU,↓Zv,↓ZR,↓ZE,↓ZS,↓Yy,↓Wp,↓ZA,↓ZN,↓ZK,↓ZL,↓Yl,↓YW,↓Yz,ptrV,Zmd,Zmg,Zmi,Zml,ite_true,ite_false,Zl9,Zma,Zmj,Zmu,ne_eq,not_false_eq_true,true_and,Zme,decide_true,reduceCtorEq,ZmL,Zmw,ZT,fillV,setAt,eq_self,Zmh,Zmb,and_self,ZmC,ZmD,Yq,XV,Zmn,Zmy,Zmc,WC,Yn,Zcg,WE,XG,Yo,WD,Yp,YG,ZT,WW,Yd,Xz,YT,ZhE,Xb,en_78, *]) | (refine hr0.index YA (by omega) (by omega) (fun a ha=>?_)) | (refine ha.load Yd hld ?_) | (with_reducible refine And.intro ?_ ?_)))
    all_goals rw [ZQ (n:=(i:Int)+1) (by omega) (by omega)]
    ·exact ⟨i+1,by omega,rfl,by rw [hfs.out,if_pos hle]; exact hR2,hgd2.out⟩
    ·omega
   ·(repeat' (first | (simp only [↓Zt,Zu,ptrV,Zl9,Zma,reduceCtorEq,Zmb,WW,Yd,Xz,Xb, *]) | (refine hr0.index YA (by omega) (by omega) (fun a ha=>?_)) | (refine ha.load Yd hld ?_) | (with_reducible refine And.intro ?_ ?_)))
    all_goals rw [ZQ (n:=(i:Int)+1) (by omega) (by omega)]
    ·exact ⟨i+1,by omega,rfl,by rw [hfs.out,if_neg hle]; exact hR.out,hgd2.out⟩
    ·omega
  ·have hil:¬ (i:Int)<(ks.length:Int):=by omega
   obtain rfl:i=ks.length:=by omega
   rw [ZmQ (Zmc _)] at hR;have hk2:=hK.out _ hR;replace hR:=Hold.mk hR
   (repeat' (first | (simp only [↓Zt,Zu,ptrV,Zma, *])))
   exact ⟨rfl,_,_,_,rfl,.refl _ _,hk2⟩
end Go.PV.Ytfkkmdelpddojaa
end
section
open Bool renaming and_self→Zmp
open Int renaming natCast_nonneg→ZmL,toNat_natCast→Zmw
open List renaming getElem_mem→ZmE,map_cons→Zmd,map_nil→Zmg,drop→Zmb,length_cons→Zmi,length_nil→Zml,all_cons→Zmz,all_nil→ZmJ,getElem?_cons_zero→ZmC,getElem?_cons_succ→ZmD,set_cons_zero→Zmn,set_cons_succ→Zmy,take_of_length_le→ZmQ,append_nil→ZmF,replicate_succ→ZmP,replicate_zero→ZmZ,flatten_cons→ZmT,flatten_nil→ZmX
open Nat renaming reduceEqDiff→Zl9,reduceLT→Zma,succ_ne_self→Zme,zero_add→Zmh,add_zero→Zmo,reduceAdd→Zmj,reduceLeDiff→Zmu,le_refl→Zmc,mul_one→ZmM
set_option maxRecDepth 20000
set_option maxHeartbeats 4000000
namespace Go.PV.Ytfkkmdelpddojaa
open Go Go.Proofs
def Ch.fin (C:Ch) (sp:Sp) (q:Int):Ch:={ C with done:=fun s=>if s=sp then C.done s++[q] else C.done s }
def complK (g:List Pd) (q:Pd) (at_:Nat) (C:Ch) (w:St):Ch:=if (itemF g w).1.prio≤q.prio then C.add at_ ⟨w.prod,w.dot+1,w.start⟩ else C
def complF (g:List Pd) (x:St) (at_:Nat) (C:Ch):Ch:=((C.sets x.start).wt (pdAt g x.prod).left).foldl (complK g (pdAt g x.prod) at_) (C.fin (x.start,at_) x.prod)
def okW (g:List Pd) (n:Nat) (x:St):Prop:=x.prod<g.length∧x.dot<(pdAt g x.prod).items.length∧x.start≤n
theorem Gd.complK {g:List Pd} {n at_:Nat} {q:Pd} {C:Ch} {w:St} (h:Gd g n C) (ha:at_≤n) (hw:okW g n w):Gd g n (complK g q at_ C w):=by
 unfold Go.PV.Ytfkkmdelpddojaa.complK;split
 ·exact h.add ⟨hw.1,hw.2.1,hw.2.2⟩
 ·exact h
def wlV (l:List St) (v:VV):VV:=if l=[] then .lit (.slice none 0 0) else v
def upD (f:Sp→VV) (s:Sp) (v:VV):Sp→VV:=fun s'=>if s'=s then v else f s'
abbrev Par.setD (p:Par) (s:Sp) (v:VV):Par:={ p with vd:=upD p.vd s v }
theorem done_ok {cx:Cx} {H0 H:AH} {g:List Pd} {l:List Tk} {n:Nat} {p:Par} {by_:ByteArray→List Int} {C:Ch} {sp:Sp} {q:Int} {K:VE→AH→Prop} (hsp:spOk sp) (hl:(C.done sp).length≤1099511627776) (h:RSat H0 H g l n p by_ C)
 (hK:∀ (v0:VV) (b:Int) (H1:AH),(∀ r c,¬ r=p.rd→H r=some c→H1 r=some c)→(∀ (K2:VE→AH→Prop),(∀ v' H2,v'.cells=[v']∧VV.one v'=true→(∀ r c,H0 r=some c→H2 r=some c)→(∀ (K3:VE→AH→Prop),(∀ H3,RSat H0 H3 g l n (p.setD sp v') by_ (C.fin sp q)→K3 (.ret Zx) H3)→XD (mapV p.rd) (iV b) v' H2 K3)→K2 (.ret v') H2)→Jf Try.prog 108 v0 (.slice true 1 [iV q]) H1 K2)→K (.ret (.tuple [v0,iV b])) H1) :
 JC Try.prog 124 (mapV p.rd) (spV sp) H K:=by
 obtain ⟨vs,B,h⟩:=h;have hdm:=h.ob.at_ _ _ _ h.dm;refine ⟨_,kmSp.mt,spK sp,kmSp.lit sp,kmSp.all _ hsp,?_⟩;simp only [hdm];refine ⟨fun _ h=>h,kmSp.all _ hsp,fun k y hy=>?_,fun arr clock e he hke hE hks=>?_⟩
 ·obtain ⟨a,rfl,ha⟩:=Zee hy;by_cases e:C.done a=[]
  ·rw [if_pos e] at ha; cases ha
  ·rw [if_neg e] at ha; cases ha;obtain ⟨x,c,hx⟩:=(h.ds a).form;exact ⟨_,hx⟩
 ·have hval:VV.lit e.val=if C.done sp=[] then .lit (.slice none 0 0) else p.vd sp:=by
   have:=hE.get e he
   rw [hke,Wq,ZdT Zd0] at this;by_cases e0:C.done sp=[]
   ·rw [if_pos e0] at this ⊢;simp at this;rw [← this]
   ·rw [if_neg e0] at this ⊢;simp at this;exact this.symm
  have ho1:=h.ob.set h.dm (.obj (.map arr clock))
  have hs1:SlO (B.put .dm (some (p.rd,.obj (.map arr clock)))) (.ds sp) 3 1 intE (VV.lit e.val) (C.done sp):=by
   rw [hval];by_cases e0:C.done sp=[]
   ·rw [if_pos e0,e0];exact SlO.none _ _ _ _ (by rw [OB.put_ne _ _ (by simp)]; exact h.dn _ e0)
   ·rw [if_neg e0];exact (h.ds sp).of (OB.put_ne _ _ (by simp))
  refine hK _ _ _ (fun r c hr hc=>by rw [AH.set_ne _ _ hr]; exact hc) fun K2 hK2=>?_
  refine SlO.append (l:=C.done sp) (x:=q) (w:=1) (b:=8) (enc:=intE) (fun _=>rfl) YA Wv rfl (by omega) hs1 ho1 rfl (by omega) (by omega) (fun v' H' B' s1 s2 s3=>?_);have cd:B' .dm=some (p.rd,.obj (.map arr clock)):=by rw [s2 _ (by simp),OB.put_same]
  have wd:=s3.at_ _ _ _ cd;refine hK2 v' H' s1.cells (fun r c hr=>s3.sub _ _ hr) fun K3 hK3=>?_
  show XD (.lit (.map (some p.rd))) (.lit (.int .i64 (e.born:Int))) v' H' K3;unfold XD;simp only [wd];refine ⟨e,he,rfl,_,_,hE,hks,hK3 _ ⟨vs,_,⟨s3.set cd _,?_,?_,fun j hj=>?_,fun j hj=>?_,?_,?_,?_,fun j hj=>?_,fun j hj s=>?_,fun s=>?_,fun s=>?_,fun j hj s hw=>?_,fun s hd=>?_⟩⟩⟩
  all_goals have hne:∀ k b,¬ k=.dm→¬ k=.ds sp→(B'.put .dm b) k=B k:=fun k b k1 k2=>by rw [OB.put_ne _ _ k1,s2 _ k2,OB.put_ne _ _ k1]
  ·rw [hne _ _ (by simp) (by simp)]; exact h.chart
  ·rw [hne _ _ (by simp) (by simp)]; exact h.sets
  ·rw [hne _ _ (by simp) (by simp)]; exact h.th j hj
  ·rw [hne _ _ (by simp) (by simp)]; exact h.wm j hj
  ·rw [OB.put_same]
   congr 3
   rw [hke,ZjH,ZiZ Zd0]
   congr 1
   funext s
   show _=if (if s=sp then C.done s++[q] else C.done s)=[] then none else some (upD p.vd sp v' s)
   unfold upD;by_cases e1:s=sp
   ·subst e1; rw [Za0,if_pos rfl,if_pos rfl,if_neg (by simp)]
   ·rw [ZdS _ _ e1,if_neg e1,if_neg e1]
  ·rw [hne _ _ (by simp) (by simp)]; exact h.km
  ·rw [hne _ _ (by simp) (by simp)]; exact h.bm
  ·exact (h.st j hj).of (hne _ _ (by simp) (by simp))
  ·exact (h.wt j hj s).of (hne _ _ (by simp) (by simp))
  ·show SlO _ _ _ _ _ (upD p.vd sp v' s) (if s=sp then C.done s++[q] else C.done s);unfold upD;by_cases e1:s=sp
   ·subst e1; rw [if_pos rfl,if_pos rfl]; exact s1.of (OB.put_ne _ _ (by simp))
   ·rw [if_neg e1,if_neg e1]; exact (h.ds s).of (hne _ _ (by simp) (by simp [e1]))
  ·exact (h.bs s).of (hne _ _ (by simp) (by simp))
  ·rw [hne _ _ (by simp) (by simp)]; exact h.wn j hj s hw
  ·have hd:(if s=sp then C.done s++[q] else C.done s)=[]:=hd;by_cases e1:s=sp
   ·rw [if_pos e1] at hd; simp at hd
   ·rw [if_neg e1] at hd;rw [hne _ _ (by simp) (by simp [e1])]; exact h.dn s hd
abbrev spBl (s:Sp):Blk:=.cells 99 (spE s) 0
def CmA (H1:AH) (g:List Pd) (l:List Tk) (n:Nat) (p:Par) (by_:ByteArray→List Int) (C:Ch) (at_ r4 r6 r7:Nat) (A:AF) (H:AH):Prop :=
 A.d=[]∧A.t 0=ptrV p.rc 0∧A.t 2=iV at_∧A.t 4=ptrV r4 0∧A.t 6=ptrV r6 0∧A.t 7=ptrV r7 0∧RSat H1 H g l n p by_ C
theorem ZiH {H0 H:AH} {g:List Pd} {l:List Tk} {n at_:Nat} {p:Par} {by_:ByteArray→List Int} {C:Ch} {x:St} {K:VE→AH→Prop} (hG:GOk g n) (hgd:Gd g n C) (hat:at_≤n) (hx:okS g n x) (hw:∀ w∈(C.sets x.start).wt (pdAt g x.prod).left,okW g n w) (hwl:((C.sets x.start).wt (pdAt g x.prod).left).length≤20000) (hdl:(C.done (x.start,at_)).length≤1099511627776)
 (h:RSat H0 H g l n p by_ C) (hK:∀ H' v,RSat H0 H' g l n (p.setD (x.start,at_) v) by_ (complF g x at_ C)→K (.ret (.tuple [])) H'):ZO Try.prog 79 [ptrV p.rc 0,stV x,iV at_] H K:=by
 obtain ⟨hx1,hx2,hx3⟩:=hx;have hxl:(x.prod:Int)<(g.length:Int):=by omega
 have hdi:=WG hx1;have hpa:=Xa hx1;have hso:=ZgD hG (⟨hx1,hx2,hx3⟩:okS g n x);unfold complF at hK;rw [hpa] at hK hw hwl;have hgn:=hG.n;have hlt:=(hG.txt _ (ZmE hx1)).1;obtain ⟨q,hq⟩:∃ q,q=g[x.prod]:=⟨_,rfl⟩
 rw [← hq] at hK hw hwl hdi hlt;clear hq hpa;refine Zgt fd79 (by simp) ?_;delta c79 Zj Za Zq Zr Zd Zb Zk Zi Zg Zh Zl Ze;refine JX (l:=[_,_,_]) (K:=fun A H2=>∃ H1 r4 r6 r7,SubH H0 H1∧H1 r4=some (.cells 129 (stE x) 0)∧H1 r6=some (.cells 62 (pdE q) 0)∧H1 r7=some (spBl (x.start,at_))∧CmA H1 g l n p by_ C at_ r4 r6 r7 A H2) (fun _ _ _ h=>h) ?_ _ _ ?_
 ·clear h;rintro ⟨t,d⟩ B ⟨H1,r4,r6,r7,hs1,k4,k6,k7,rfl,h0,h2,h4,h6,h7,hR⟩;dsimp only at h0 h2 h4 h6 h7;have q4:=hR.keep k4;have q6:=hR.keep k6;have q7:=hR.keep k7;unfold spBl at q7;have qc:B p.rc=some (.cells 127 [pdsV g,tksV l,.lit (.slice (some ⟨p.rs,0,none⟩) (n+1) (n+1)),mapV p.rd,mapV p.rk] 0):=by obtain ⟨vs,B,h⟩:=hR; exact h.ob.at_ _ _ _ h.chart
  have hspo:spOk (x.start,at_):=⟨by show x.start≤_; omega,by show at_≤_; omega⟩
  have hdone:=fun (K':VE→AH→Prop)=>done_ok (cx:=⟨Try.prog,76,none⟩) (sp:=(x.start,at_)) (q:=(x.prod:Int)) (K:=K') hspo hdl hR
  refine JX (l:=[_]) (K:=fun A H2=>∃ v,CmA H1 g l n (p.setD (x.start,at_) v) by_ (C.fin (x.start,at_) x.prod) at_ r4 r6 r7 A H2) (fun _ _ _ h=>h) ?_ _ _ ?_
  ·clear hdone qc q4 q6 q7 h0 h2 h4 h6 h7 hR hdl;rintro ⟨t,d⟩ B ⟨v,rfl,h0,h2,h4,h6,h7,hR⟩;dsimp only at h0 h2 h4 h6 h7;replace hK:=fun H'=>hK H' v
   replace h0:t 0=ptrV (p.setD (x.start,at_) v).rc 0:=h0;generalize p.setD (x.start,at_) v=p' at *
   clear p;have e1:((C.fin (x.start,at_) x.prod).sets x.start).wt=(C.sets x.start).wt:=rfl;have hgd1:Gd g n (C.fin (x.start,at_) x.prod):=⟨hgd.nd,hgd.ok⟩
   generalize C.fin (x.start,at_) x.prod=C1 at *
   rw [← e1] at hw hwl hK;clear hgd e1 C;have q4:=hR.keep k4;have q6:=hR.keep k6;obtain ⟨vs,Bo,hx⟩:∃ vs Bo,RSx H1 B g l n p'.rc p'.rs p'.rd p'.rk p'.rb p'.th p'.wm vs p'.vw p'.vd p'.vb by_ C1 Bo:=hR;have hR:RSat H1 B g l n p' by_ C1:=⟨vs,Bo,hx⟩
   have qc:=hx.ob.at_ _ _ _ hx.chart;have qs:=hx.ob.at_ _ _ _ hx.sets;have qw:=hx.ob.at_ _ _ _ (hx.wm _ hx3);have d2:=ZfA vs p'.th p'.wm hx3;have hin:(x.start:Int)<((n+1:Nat):Int):=by omega
   have hlen:=Zb8 n vs p'.th p'.wm
   have hlk:∀ (H':AH) (K':VE→AH→Prop),H' (p'.wm x.start)=some (.map (ZW Try.prog 120) (smap fun s=>if (C1.sets x.start).wt s=[] then none else some (p'.vw x.start s)))→K' (.ret (wlV ((C1.sets x.start).wt q.left) (p'.vw x.start q.left))) H'→XP Try.prog 120 (mapV (p'.wm x.start)) (sV q.left) false H' K':=fun H' K' hr hk=>by
    refine Zed smWt (by unfold maxLen; omega) hr (fun y hy=>?_) (fun hy=>?_)
    ·by_cases e:(C1.sets x.start).wt q.left=[]
     ·rw [if_pos e] at hy; cases hy
     ·rw [if_neg e] at hy; cases hy;unfold wlV at hk; rw [if_neg e] at hk; exact hk
    ·by_cases e:(C1.sets x.start).wt q.left=[]
     ·unfold wlV at hk; rw [if_pos e] at hk; exact hk
     ·rw [if_neg e] at hy; cases hy
   have hrd:∀ {H':AH} {C':Ch},RSat H1 H' g l n p' by_ C'→(C'.sets x.start).wt=(C1.sets x.start).wt→SlR H' (wlV ((C1.sets x.start).wt q.left) (p'.vw x.start q.left)) ((C1.sets x.start).wt q.left).length (encC stE ((C1.sets x.start).wt q.left)):=fun {H' C'} h' e'=>by
    obtain ⟨vs,B,h'⟩:=h';unfold wlV;by_cases e:(C1.sets x.start).wt q.left=[]
    ·rw [if_pos e,e]; exact .inr (.inl ⟨rfl,rfl,rfl⟩)
    ·rw [if_neg e,← e']; exact (h'.wt _ hx3 q.left).read h'.ob
   have hr0:=hrd hR rfl;generalize wlV ((C1.sets x.start).wt q.left) (p'.vw x.start q.left)=v at *
   clear hx;replace hR:=Hold.mk hR;replace hK:=Hold.mk hK;refine YL rfl (fun _ _ _ h=>h) ?_
   (repeat' (first | (refine hlk _ _ (by assumption) ?_) | (simp only [↓Ye,↓Ys,↓Zcv,↓XF,↓ZY,↓ZD,↓ZG,↓ZH,↓ZJ,↓ZI,↓ZP,↓Zv,↓ZR,↓ZS,↓Yh,↓ZA,↓ZN,↓Wn,↓ZX,↓Xk,vcNil,ptrV,intV,Zmd,Zmg,ite_true,ite_false,Zl9,Zma,ne_eq,not_false_eq_true,true_and,Zme,ZmL,Zmw,↓Xc,↓Xg,↓Xm,eq_self,Zmh,Zmo,Zmb,and_self,Yq,Yn,YK,Zfk,Zcz,Yo,Yp,YG,↓Wy,↓XM,Zcd,Jq,Zd7,WH,Yd,ZaN,ZkD,Wb,ZaO, *]) | (refine Yf mixed (fun _ _ _ _ e h=>⟨e.trans h.1,h.2⟩) _ (SubH.refl _) ?_) | (exact SubH.refl _) | (refine hr0.len (by simp [XL]) ?_) | (with_reducible refine And.intro ?_ ?_)))
   clear hr0 qc qs qw hlk hlen d2 hin hdi;replace hR:=hR.out;obtain ⟨ws,hws⟩:∃ ws,ws=(C1.sets x.start).wt q.left:=⟨_,rfl⟩
   rw [← hws] at hw hwl hK hrd;rw [← hws];clear q4 q6;replace hws:=Hold.mk hws
   refine YJ (fun _ _ _ h=>h) (fun A H'=>A.d=[]∧A.t 0=ptrV p'.rc 0∧A.t 2=iV at_∧A.t 6=ptrV r6 0∧A.t 47=v∧A.t 48=iV ws.length∧∃ i:Nat,i≤ws.length∧A.t 49=iV i∧RSat H1 H' g l n p' by_ ((ws.take i).foldl (complK g q at_) C1)∧Gd g n ((ws.take i).foldl (complK g q at_) C1)∧(((ws.take i).foldl (complK g q at_) C1).sets x.start).wt=(C1.sets x.start).wt)
    (fun A _=>match A.t 49 with | .lit (.int _ i)=>((ws.length:Int)-i).toNat | _=>0) ?_ ?_
   ·exact ⟨rfl,(by simp only [Zv,Zl9,if_false, *]<;>rfl),(by simp only [Zv,Zl9,if_false, *]<;>rfl),(by simp only [Zv,Zl9,if_false, *]<;>rfl),(by simp only [Zv,Zl9,if_true,if_false, *]<;>rfl),(by simp only [Zv,Zl9,if_true,if_false, *]<;>rfl),0,by omega,(by simp only [Zv,Zl9,if_true,if_false, *]<;>rfl),hR,hgd1,rfl⟩
   ·clear hR hgd1 h0 h2 h4 h6 h7;rintro ⟨t,d⟩ H' ⟨rfl,h0,h2,h6,h47,h48,i,hi,h49,hR,hgd,hwq⟩;dsimp only at h0 h2 h6 h47 h48 h49;have hr0:=hrd hR hwq;have q6:=hR.keep k6;delta b79_1 Zn Zr Zk Zb Zi Zg Za Zo Zh Zc Zd Zm Zq;by_cases hlt:i<ws.length
    ·have hil:(i:Int)<(ws.length:Int):=by omega
     have hfs:=ZfB (complK g q at_) C1 hlt;generalize (ws.take i).foldl (complK g q at_) C1=C2 at *
     have hwi:=hw _ (ZmE hlt);have hgd2:=hgd.complK (q:=q) hat hwi;rw [← hfs] at hgd2
     have hld:ldV 3 true ((encC stE ws).drop ((i:Int).toNat * 3))=some (stV ws[i]):=by
      rw [Zmw,WZ (k:=3) (fun _=>rfl) hlt]; rfl
     have hwt2:((complK g q at_ C2 ws[i]).sets x.start).wt=(C1.sets x.start).wt:=by
      unfold complK;split
      ·rw [add_wt]; exact hwq
      ·exact hwq
     rw [← hfs] at hwt2;generalize ws[i]=w at *
     obtain ⟨w1,w2,w3⟩:=hwi;have hwil:=WK hG w1;rw [Xa w1] at hwil w2;have qc:H' p'.rc=some (.cells 127 [pdsV g,tksV l,.lit (.slice (some ⟨p'.rs,0,none⟩) (n+1) (n+1)),mapV p'.rd,mapV p'.rk] 0):=by obtain ⟨vs,B,h⟩:=hR; exact h.ob.at_ _ _ _ h.chart
     have hlg:=hG.len;have hit:=fun (H3:AH) (hs:SubH H' H3)=>ZkV (x:=w) (by omega) (.inr ⟨rfl,hs _ _ qc⟩) w1 (by omega) (by omega)
     have hadd:=fun H' K'=>Zkv (H0:=H1) (C:=C2) (g:=g) (K:=K') (H:=H') (x:=⟨w.prod,w.dot+1,w.start⟩) (l:=l) (p:=p') (by_:=by_) (by have:=hG.n; omega) hat (ZgD hG (g:=g) (n:=n) ⟨w1,by rw [Xa w1]; exact w2,w3⟩) (by have:=hgd.len hG hat; omega)
     have hck:complK g q at_ C2 w=if (itemF g w).1.prio≤q.prio then C2.add at_ ⟨w.prod,w.dot+1,w.start⟩ else C2:=rfl
     rw [hck] at hfs;clear hck;generalize itemF g w=r at *
     obtain ⟨⟨it1,it2,it3⟩,rb⟩:=r;replace hR:=Hold.mk hR;replace hgd2:=Hold.mk hgd2;replace hfs:=Hold.mk hfs;clear hgd hK hrd;dsimp only at hfs;have hwr:IntKind.wrap .i64 ((w.dot:Int)+1)=((w.dot+1:Nat):Int):=by rw [ZQ (by omega) (by omega)]; rfl
     by_cases hle:it3≤q.prio
     ·(repeat' (first | (refine (hit _ ?_).use ?_) | (refine hadd _ _ ((hR.out.skip (by assumption) _).skip (by assumption) _) (fun H2 hR2=>?_)) | (simp only [↓Yt,↓Ya,↓Ye,↓ZZ,↓Yb,↓Ys,↓ZY,↓ZF,↓ZD,↓Jg,↓ZG,↓ZH,↓YX,↓ZJ,↓YY,↓ZI,↓ZP,↓ZU,↓Zv,↓ZR,↓ZE,↓ZS,↓YR,↓Yy,↓Xn,↓Wp,↓ZA,↓ZN,↓Xj,↓ZK,↓ZL,↓Yl,↓YW,↓Yz,Yw,ptrV,boolV,Zmd,Zmg,Zmi,Zml,ite_true,ite_false,Zl9,Zma,Zmj,Zmu,ne_eq,not_false_eq_true,true_and,Zme,decide_true,reduceCtorEq,AH.get,AH.set_set,ZT,fillV,setAt,Zmz,ZmJ,Zmp,eq_self,Zmh,Zmo,Zmb,and_self,ZmC,ZmD,Yq,Wt,XV,Wc,WM,YB,Zmn,Zmy,↓Xo,YP,Zmc,Yn,YK,Yo,Yp,YG,Wf,Wg,ZT,WW,XZ,Jr,Zan,Zcd,Wo,Yd,Zbz,ZhE,WU,Wr,Xp,ZgL,en_78, *]) | (refine Zw fun zr zh=>?_; have zg:=zh; (try simp only [AH.set_none] at zg); (try have zn_q6:=AH.ne_of q6 zh); (try have zn_q6:=AH.ne_of q6 zg.2); (try have zn_q6:=AH.ne_of q6 zg.2.2); (try have zn_q6:=AH.ne_of q6 zg.2.2.2); (try have zn_q6:=AH.ne_of q6 zg.2.2.2.2)) | (exact SubH.refl _) | (refine SubH.of_set ?_ ?_) | (refine hr0.index XL (by omega) (by omega) (fun a ha=>?_)) | (refine ha.load Wo hld ?_) | (with_reducible refine And.intro ?_ ?_)))
      all_goals rw [ZQ (n:=(i:Int)+1) (by omega) (by omega)]
      ·exact ⟨i+1,by omega,rfl,by rw [hfs.out,if_pos hle]; exact hR2,hgd2.out,hwt2⟩
      ·omega
     ·(repeat' (first | (refine (hit _ ?_).use ?_) | (simp only [↓Yt,↓Ya,↓Ye,↓ZZ,↓Yb,↓Yv,↓Ys,↓ZY,↓ZF,↓ZD,↓Jg,↓ZG,↓ZH,↓YX,↓ZJ,↓YY,↓ZI,↓ZP,↓ZU,↓Zv,↓ZR,↓ZE,↓ZS,↓YR,↓Yy,↓Xn,↓ZA,↓ZN,↓Xj,↓ZK,↓ZL,↓Yl,↓YW,↓Yz,Yw,ptrV,boolV,Zmd,Zmg,Zmi,Zml,ite_true,ite_false,Zl9,Zma,Zmj,ne_eq,not_false_eq_true,true_and,Zme,decide_true,decide_false,reduceCtorEq,AH.get,AH.set_set,setAt,Zmz,ZmJ,Zmp,eq_self,Zmh,Zmb,ZmC,ZmD,Yq,Wt,Wc,WM,YB,Zmn,Zmy,↓Xo,YP,Zmc,Yn,YK,Yo,Yp,YG,Wf,Wg,WW,XZ,Wo,Yd,Zbz,WU,Wr,Xp,ZgL, *]) | (refine Zw fun zr zh=>?_; have zg:=zh; (try simp only [AH.set_none] at zg); (try have zn_q6:=AH.ne_of q6 zh); (try have zn_q6:=AH.ne_of q6 zg.2); (try have zn_q6:=AH.ne_of q6 zg.2.2); (try have zn_q6:=AH.ne_of q6 zg.2.2.2); (try have zn_q6:=AH.ne_of q6 zg.2.2.2.2)) | (exact SubH.refl _) | (refine SubH.of_set ?_ ?_) | (refine hr0.index XL (by omega) (by omega) (fun a ha=>?_)) | (refine ha.load Wo hld ?_) | (with_reducible refine And.intro ?_ ?_)))
      all_goals rw [ZQ (n:=(i:Int)+1) (by omega) (by omega)]
      ·exact ⟨i+1,by omega,rfl,by rw [hfs.out,if_neg hle]; exact (hR.out.skip (by assumption) _).skip (by assumption) _,hgd2.out,hwt2⟩
      ·omega
    ·have hil:¬ (i:Int)<(ws.length:Int):=by omega
     obtain rfl:i=ws.length:=by omega
     rw [ZmQ (Zmc _)] at hR;have hk2:=hK.out _ (hR.weak hs1);replace hR:=Hold.mk hR
     (repeat' (first | (simp only [↓Zt,Zu,ptrV,Zma, *])))
     exact ⟨rfl,_,_,_,rfl,.refl _ _,hk2⟩
  ·obtain ⟨Hi,i3,i4,i6,in_,hsub⟩:∃ Hi:Nat→AH,Hi 3=B∧Hi 4=B∧Hi 6=B∧(∀ k,8≤k→Hi k=AH.nil)∧∀ k,SubH (Hi k) B :=
    ⟨fun i=>if i<8 then B else AH.nil,rfl,rfl,rfl,fun k hk=>if_neg (by omega),fun k=>by
      show SubH (if k<8 then _ else _) _;split
      ·exact SubH.refl _
      ·intro _ _ h; cases h⟩
   simp only [vcs];replace hR:=Hold.mk hR
   (repeat' (first | (refine ZaZ mixed (fun _ _ _ _ e h=>⟨e.trans h.1,h.2⟩) Hi hsub ?_) | (refine hdone _ ?_) | (simp only [↓ZG,↓ZH,↓ZJ,↓ZI,↓Zv,↓ZR,↓ZS,↓Yh,↓YC,↓ZA,↓Xj,↓ZX,↓WX,vcNil,Yw,ptrV,Zmd,Zmg,Zmi,Zml,ZmF,ite_true,ite_false,Zl9,Zma,Zmu,ne_eq,not_false_eq_true,true_and,Zme,ZmM,Zx,fillV,setAt,eq_self,Zmh,Zmo,Zmb,and_self,ZmC,ZmD,forall_const,Yq,JG,XV,Zmn,Zmc,Yn,YK,Yo,Yp,YG,undef,ZB,ZmP,ZmZ,ZmT,ZmX,ZdY,ZgA,ZdZ,Zb7,ZjC,Jr,Zd8,Yd,ZhF,ZbE,YA,Wv, *])))
   intro v0 b H1' hkp happ;refine ⟨fun k hk=>(by rw [in_ k (by simp at hk; omega)]; exact fun _ _ h=>(by cases h)),?_⟩
   (repeat' (first | (refine happ _ (fun v' H2 hv hsb hst=>?_)) | (refine hst _ (fun H3 hR3=>?_)) | (simp only [↓ZY,↓ZF,↓ZD,↓ZG,↓ZH,↓YX,↓YY,↓ZI,↓Zv,ite_true,ite_false,Zl9,true_and,Zme,eq_self,Zij,Zb7,Zhq, *]) | (with_reducible refine And.intro ?_ ?_)))
   ·exact fun k hk _=>(by rw [in_ k (by simp at hk; omega)]; exact fun _ _ h=>(by cases h))
   ·exact ⟨v',rfl,(by simp only [Zv,Zl9,if_false, *]<;>rfl),(by simp only [Zv,Zl9,if_false, *]<;>rfl),(by simp only [Zv,Zl9,if_false, *]<;>rfl),(by simp only [Zv,Zl9,if_false, *]<;>rfl),(by simp only [Zv,Zl9,if_false, *]<;>rfl),hR3⟩
 ·simp only [vcs];have qc:H p.rc=some (.cells 127 [pdsV g,tksV l,.lit (.slice (some ⟨p.rs,0,none⟩) (n+1) (n+1)),mapV p.rd,mapV p.rk] 0):=by obtain ⟨vs,B,h⟩:=h; exact h.ob.at_ _ _ _ h.chart
  have hsub:SubH H0 H:=by obtain ⟨vs,B,h⟩:=h; exact h.ob.sub
  replace h:=Hold.mk h
  (repeat' (first | (simp only [↓Zt,Zu,vcNil,ptrV,Zl9,Zma,Zmj,Zmu,reduceCtorEq,Zx,↓Xm,ZT,fillV,setAt,Zmb,↓XM,undef,ZT,Jr,Zcd,YU,Yd,Xz,Je,Zgp,szT_99,ZaI,JV,zeroT_99,Xb, *]) | (refine Yf mixed (fun _ _ _ _ e h=>⟨e.trans h.1,h.2⟩) _ (SubH.refl _) ?_) | (refine And.intro (SubH.new (by assumption)) ?_) | (refine Zw fun zr zh=>?_; have zg:=zh; (try simp only [AH.set_none] at zg); (try have zn_qc:=AH.ne_of qc zh); (try have zn_qc:=AH.ne_of qc zg.2); (try have zn_qc:=AH.ne_of qc zg.2.2); (try have zn_qc:=AH.ne_of qc zg.2.2.2); (try have zn_qc:=AH.ne_of qc zg.2.2.2.2))))
  rename_i r4 n4 n4' w4 r6 n6 n6' w6;exact ⟨_,r4,r6,zr,((SubH.new (b:=.cells 129 (stE x) 0) (hsub.none n4)).of_set (b:=.cells 62 [sV q.left,iV q.prio,sV q.name,itsV q.items] 0) (hsub.none n6'.2)).of_set (b:=.cells 99 [iV x.start,iV at_] 0) (hsub.none zg.2.2),(by simp only [AH.get, *,if_true,if_false]<;>rfl),(by simp only [AH.get, *,if_true,if_false]<;>rfl),AH.set_same _ _ _,rfl,(by simp only [Zv,Zl9,if_false, *]<;>rfl),(by simp only [Zv,Zl9,if_false, *]<;>rfl),(by simp only [Zv,Zl9,if_true,if_false, *]<;>rfl),(by simp only [Zv,Zl9,if_true,if_false, *]<;>rfl),(by simp only [Zv,Zl9,if_true,if_false, *]<;>rfl),((h.out.base n4 _).base n6 _).base zh _⟩
end Go.PV.Ytfkkmdelpddojaa
end
section
set_option maxRecDepth 20000
set_option maxHeartbeats 4000000
namespace Go.PV.Ytfkkmdelpddojaa
open Go Go.Proofs
theorem Zek (P:Program) (t:TypeId) (H:AH) (K:VE→AH→Prop):ZaW P t H K=Zbe H fun r=>K (.ret (mapV r)) (H.set r (.map (ZW P t) (fun _=>none))):=rfl
def slO {α:Type} (l:List α) (v:VV):VV:=if l=[] then .lit (.slice none 0 0) else v
def upB {β:Type} (f:ByteArray→β) (s:ByteArray) (x:β):ByteArray→β:=fun s'=>if s'=s then x else f s'
theorem Zb9 {β:Type} (f:ByteArray→β) (s:ByteArray) (x:β):upB f s x s=x:=if_pos rfl
theorem ZgE {β:Type} (f:ByteArray→β) {s s':ByteArray} (x:β) (h:¬ s'=s):upB f s x s'=f s':=if_neg h
structure SM {α:Type} (B:OB RK) (kM:RK) (kS:ByteArray→RK) (t e:TypeId) (w:Nat) (enc:α→List VV) (r:Nat) (v:ByteArray→VV) (L:ByteArray→List α):Prop where
 map:B kM=some (r,.map (ZW Try.prog t) (smap fun s=>if L s=[] then none else some (v s)))
 own:∀ s,SlO B (kS s) e w enc (v s) (L s)
 non:∀ s,L s=[]→B (kS s)=none
section
variable {α:Type} {B:OB RK} {kM:RK} {kS:ByteArray→RK} {t ta e:TypeId} {w b:Nat} {enc:α→List VV} {r:Nat} {v:ByteArray→VV} {L:ByteArray→List α} {H0 H:AH} {s:ByteArray} {x:α} {zs:List Value} {K:VE→AH→Prop}
theorem SM.of {B':OB RK} (h:SM B kM kS t e w enc r v L) (h1:B' kM=B kM) (h2:∀ s,B' (kS s)=B (kS s)):SM B' kM kS t e w enc r v L:=⟨by rw [h1]; exact h.map,fun s=>(h.own s).of (h2 s),fun s hs=>by rw [h2]; exact h.non s hs⟩
theorem SM.look (h:SM B kM kS t e w enc r v L) (ho:Objs H0 H B) (hm:Zdo Try.prog t (.slice none 0 0)) (hz:s.size≤maxLen) (hk:K (.ret (slO (L s) (v s))) H):XP Try.prog t (mapV r) (sV s) false H K:=by
 refine Zed hm hz (ho.at_ _ _ _ h.map) (fun y hy=>?_) (fun hy=>?_)
 ·by_cases e:L s=[]
  ·rw [if_pos e] at hy; cases hy
  ·rw [if_neg e] at hy; cases hy;unfold slO at hk; rw [if_neg e] at hk; exact hk
 ·by_cases e:L s=[]
  ·unfold slO at hk; rw [if_pos e] at hk; exact hk
  ·rw [if_neg e] at hy; cases hy
theorem SM.push (inj:∀ s s',kS s=kS s'→s=s') (hd:∀ s,¬ kS s=kM) (h:SM B kM kS t e w enc r v L) (ho:Objs H0 H B) (hm:Zdo Try.prog t (.slice none 0 0)) (hz:s.size≤maxLen)
 (hl:∀ x,(enc x).length=w) (hel:elT Try.prog ta=some (e,w,b)) (hzt:zeroT Try.prog e=some zs) (hzk:zs.length=w) (hk:0<w) (hone:(enc x).all VV.one=true) (hb:((L s).length+1) * b≤140737488355328) (h63:(L s).length+1≤9223372036854775807)
 (hK:∀ v' H',v'.cells=[v']∧VV.one v'=true→SubH H0 H'→(∀ K3:VE→AH→Prop,(∀ H3 B3,Objs H0 H3 B3→SM B3 kM kS t e w enc r (upB v s v') (upB L s (L s++[x]))→(∀ k,¬ k=kM→¬ k=kS s→B3 k=B k)→K3 (.ret Zx) H3)→XY Try.prog t (mapV r) (sV s) v' H' K3)→K (.ret v') H'):Jf Try.prog ta (slO (L s) (v s)) (.slice true 1 (enc x)) H K:=by
 have hs1:SlO B (kS s) e w enc (slO (L s) (v s)) (L s):=by
  unfold slO;by_cases e0:L s=[]
  ·rw [if_pos e0,e0];exact SlO.none _ _ _ _ (h.non s e0)
  ·rw [if_neg e0];exact h.own s
 refine SlO.append (l:=L s) (x:=x) (w:=w) (b:=b) (enc:=enc) hl hel hzt hzk hk hs1 ho hone hb h63 (fun v' H' B' s1 s2 s3=>?_);refine hK v' H' s1.cells s3.sub fun K3 hK3=>?_
 have cm:B' kM=_:=(s2 _ (fun e=>hd s e.symm)).trans h.map;refine Zlp hm hz (s3.at_ _ _ _ cm) ?_
 have hmap:(supd (fun s=>if L s=[] then none else some (v s)) s v')=fun s'=>if upB L s (L s++[x]) s'=[] then none else some (upB v s v' s'):=by
  funext s'
  unfold supd;by_cases e1:s'=s
  ·subst e1; rw [if_pos rfl,Zb9,Zb9,if_neg (by simp)]
  ·rw [if_neg e1,ZgE _ _ e1,ZgE _ _ e1]
 rw [hmap];refine hK3 _ _ (s3.set cm _) ⟨OB.put_same _ _ _,fun s'=>?_,fun s' hs'=>?_⟩ fun k k1 k2=>by rw [OB.put_ne _ _ k1,s2 _ k2]
 ·by_cases e1:s'=s
  ·subst e1; rw [Zb9,Zb9]; exact s1.of (OB.put_ne _ _ (hd _))
  ·rw [ZgE _ _ e1,ZgE _ _ e1];exact (h.own s').of (by rw [OB.put_ne _ _ (hd _),s2 _ (fun e=>e1 (inj _ _ e))])
 ·by_cases e1:s'=s
  ·subst e1; rw [Zb9] at hs'; simp at hs'
  ·rw [ZgE _ _ e1] at hs';rw [OB.put_ne _ _ (hd _),s2 _ (fun e=>e1 (inj _ _ e))]; exact h.non s' hs'
end
end Go.PV.Ytfkkmdelpddojaa
end
section
open Int renaming natCast_nonneg→ZmL,toNat_natCast→Zmw
open List renaming nodup_nil→Zm0,drop→Zmb,length_take→ZmV,getElem_mem→ZmE,map_cons→Zmd,map_nil→Zmg,length_cons→Zmi,length_nil→Zml,append_nil→ZmF,set_cons_zero→Zmn,replicate_succ→ZmP,replicate_zero→ZmZ,flatten_cons→ZmT,flatten_nil→ZmX,take_of_length_le→ZmQ
open Nat renaming le_refl→Zmc,reduceEqDiff→Zl9,reduceLT→Zma,reduceAdd→Zmj,reduceLeDiff→Zmu,succ_ne_self→Zme,mul_one→ZmM,zero_add→Zmh
set_option maxRecDepth 20000
set_option maxHeartbeats 4000000
namespace Go.PV.Ytfkkmdelpddojaa
open Go Go.Proofs
structure PA (H1 H:AH) (g:List Pd) (l:List Tk) (rc rd rk rb:Nat) (vb:ByteArray→VV) (by_:ByteArray→List Int) (B:OB RK):Prop where
 ob:Objs H1 H B
 chart:B .chart=some (rc,.cells 127 [pdsV g,tksV l,.lit (.slice none 0 0),mapV rd,mapV rk] 0)
 dm:B .dm=some (rd,.map (ZW Try.prog 124) (kmap spK fun _=>none))
 km:B .km=some (rk,.map (ZW Try.prog 125) (kmap rsK fun _=>none))
 bm:SM B .bm .bs 148 3 1 intE rb vb by_
 sets:B .sets=none
 th:∀ i,B (.th i)=none
 wm:∀ i,B (.wm i)=none
 st:∀ i,B (.st i)=none
 wt:∀ i s,B (.wt i s)=none
 ds:∀ s,B (.ds s)=none
def byK (g:List Pd) (l:List Int) (s:ByteArray):List Int:=l.filter fun k=>decide ((pdAt g k).left=s)
def byF (g:List Pd):ByteArray→List Int:=byK g (prodF g)
structure RdA (H0 H1:AH) (g:List Pd) (l:List Tk) (sym:ByteArray) (least:Int) (r4 r9 r10 rc rb:Nat) (A:AF):Prop where
 sub:SubH H0 H1
 k4:H1 r4=some (.cells 30 [pdsV g] 0)
 k9:H1 r9=some (.cells 93 [ptrV rc 0] 0)
 k10:H1 r10=some (.cells 148 [mapV rb] 0)
 d:A.d=[]
 t1:A.t 1=sV sym
 t2:A.t 2=iV least
 t3:A.t 3=tksV l
 t4:A.t 4=ptrV r4 0
 t9:A.t 9=ptrV r9 0
 t10:A.t 10=ptrV r10 0
theorem Zel {g:List Pd}:∀ (n:Nat) {out:List Int},inG g out→out.Nodup→inG g (JL g n out)∧(JL g n out).Nodup
 | 0,_,h,hn=>⟨h,hn⟩
 | n+1,out,h,hn=>by
   unfold JL;split
   ·exact ⟨Zcm h _ (Zmc _),Zcn hn _⟩
   ·exact Zel n (Zcm h _ (Zmc _)) (Zcn hn _)
theorem ZfZ (g:List Pd):inG g (prodF g):=fun q hq=>(Zel (g.length+1) (out:=[]) (fun _ h=>by cases h) Zm0).1 q ((Jb _).mem_iff.1 hq)
theorem prodF_nd (g:List Pd):(prodF g).Nodup:=(Jb _).nodup_iff.2 (Zel (g.length+1) (out:=[]) (fun _ h=>by cases h) Zm0).2
theorem Zha (g:List Pd):(prodF g).length≤g.length:=JZ (prodF_nd g) (ZfZ g)
theorem byK_snoc (g:List Pd) {P:List Int} {i:Nat} (h:i<P.length):byK g (P.take (i+1))=upB (byK g (P.take i)) (pdAt g P[i]).left (byK g (P.take i) (pdAt g P[i]).left++[P[i]]):=by
 funext s
 unfold upB byK;rw [XK h,List.filter_append];by_cases e:s=(pdAt g P[i]).left
 ·subst e; simp
 ·have e':¬ (pdAt g P[i]).left=s:=fun e'=>e e'.symm
  rw [if_neg e]; simp [e']
theorem ZkW (g:List Pd) (P:List Int) (s:ByteArray):(byK g P s).length≤P.length:=List.length_filter_le _ _
theorem readA_ok {H:AH} {g:List Pd} {l:List Tk} {sym:ByteArray} {least:Int} {K:VE→AH→Prop} (hG:GOk g l.length)
 (hB:∀ A H1 H2 r4 r9 r10 rc rd rk rb vb B,RdA H H1 g l sym least r4 r9 r10 rc rb A→PA H1 H2 g l rc rd rk rb vb (byF g) B→ACx ⟨Try.prog,205,none⟩ Zl2 (Jd Try.prog [.tmp 8] K) A H2):ZO Try.prog 43 [pdsV g,sV sym,iV least,tksV l] H K:=by
 refine Zy fd43 (by simp) ?_;delta c43 Zj Zq Zb Za Zr Zi Zg Zo Ze;have hpr:=ZgB g (by have:=hG.len; omega) (fun p hp=>by have:=hG.its p hp; omega);have hPi:=ZfZ g;have hPl:=Zha g;have hgl:=hG.len;unfold byF at hB;generalize prodF g=P at *
 replace hB:=Hold.mk hB
 (repeat' (first | (simp only [↓Zt,Zu,↓s_scope,↓Zd9,ptrV,intV,Zl9,Zma,Zmj,Zmu,reduceCtorEq,Zx,ZT,fillV,setAt,Zmb,on_ptr,Zkk,Zkl,undef,ZT,Zek,Xz,szT_93,szT_148,stT_127,zeroT_93,Zli,YA,en_76, *]) | (refine Zw fun zr zh=>?_; have zg:=zh; (try simp only [AH.set_none] at zg)) | (refine PureF.use (hpr) ?_)))
 rename_i r4 n4 n4' rd nd nd' rk nk nk' rc nc nc' r9 n9 n9' rb nb nb';replace hB:=hB.out;have hob:=Objs.base ((Objs.base ((((Objs.base (Objs.none (fun _:RK=>none) (fun _=>rfl) H) n4 (.cells 30 [pdsV g] 0)).alloc nd .dm (.map (ZW Try.prog 124) fun _=>none)).alloc nk .km (.map (ZW Try.prog 125) fun _=>none)).alloc nc .chart (.cells 127 [pdsV g,tksV l,.lit (.slice none 0 0),mapV rd,mapV rk] 0)) n9 (.cells 93 [ptrV rc 0] 0)).alloc nb .bm (.map (ZW Try.prog 148) fun _=>none)) zh (.cells 148 [mapV rb] 0)
 refine YJ (fun _ _ _ h=>h) (fun A H'=>∃ H1,RdA H H1 g l sym least r4 r9 zr rc rb A∧A.t 31=intsV P∧A.t 32=iV P.length∧∃ i:Nat,i≤P.length∧A.t 33=iV i∧∃ vb B,PA H1 H' g l rc rd rk rb vb (byK g (P.take i)) B)
  (fun A _=>match A.t 33 with | .lit (.int _ i)=>((P.length:Int)-i).toNat | _=>0) ?_ ?_
 ·refine ⟨_,⟨((SubH.new n4).of_set n9'.2.2.2.2).of_set zg.2.2.2.2.2.2,(by simp only [AH.get, *,if_true,if_false]<;>rfl),(by simp only [AH.get, *,if_true,if_false]<;>rfl),(by simp only [AH.get, *,if_true,if_false]<;>rfl),rfl,(by simp only [Zv,Zl9,if_false, *]<;>rfl),(by simp only [Zv,Zl9,if_false, *]<;>rfl),(by simp only [Zv,Zl9,if_false, *]<;>rfl),(by simp only [Zv,Zl9,if_true,if_false, *]<;>rfl),(by simp only [Zv,Zl9,if_true,if_false, *]<;>rfl),(by simp only [Zv,Zl9,if_true,if_false, *]<;>rfl)⟩,(by simp only [Zv,Zl9,if_true,if_false, *]<;>rfl),(by simp only [Zv,Zl9,if_true,if_false, *]<;>rfl),0,by omega,(by simp only [Zv,Zl9,if_true,if_false, *]<;>rfl),fun _=>.lit (.slice none 0 0),_,⟨hob,?_,?_,?_,⟨?_,fun s=>SlO.none _ _ _ _ ?_,fun s _=>?_⟩,?_,fun i=>?_,fun i=>?_,fun i=>?_,fun i s=>?_,fun s=>?_⟩⟩
  ·simp [OB.put]
  ·rw [← ZdB]; simp [OB.put]
  ·rw [← ZdB]; simp [OB.put]
  ·have e:(fun s=>if byK g (P.take 0) s=[] then none else some (VV.lit (.slice none 0 0)))=fun _=>none:=by funext s; simp [byK]
   rw [e,← ZiY]; simp [OB.put]
  all_goals simp [OB.put]
 ·clear hob n4 n4' nd nd' nk nk' nc nc' n9 n9' nb nb' zh zg hpr;rintro ⟨t,d⟩ H' ⟨H1,hA,h31,h32,i,hi,h33,vb,B,hP⟩;obtain ⟨hs,k4,k9,k10,rfl,h1,h2,h3,h4,h9,h10⟩:=hA;dsimp only at h1 h2 h3 h4 h9 h10 h31 h32 h33;delta b43_1 Zn Zr Zk Zb Zc Za Zd Zq Zl Zm;by_cases hlt:i<P.length
  ·have hil:(i:Int)<(P.length:Int):=by omega
   have hsn:=byK_snoc g hlt;have hbl:=ZkW g (P.take i) (pdAt g P[i]).left;rw [ZmV] at hbl;obtain ⟨q0,q1⟩:=hPi _ (ZmE hlt);obtain ⟨k,hk⟩:∃ k:Nat,P[i]=(k:Int):=⟨P[i].toNat,by omega⟩
   have hkl:k<g.length:=by omega
   have hkl':(k:Int)<(g.length:Int):=by omega
   have hdi:=WG hkl;have hpi:=JO hlt;rw [hk] at hsn hbl hpi;rw [Xa hkl] at hsn hbl;have hz:=(hG.txt _ (ZmE hkl)).1;clear hk q0 q1;generalize g[k]=q at *
   have hz:q.left.size≤maxLen:=by unfold maxLen; omega
   obtain ⟨f,hf⟩:∃ f,f=byK g (P.take i):=⟨_,rfl⟩
   rw [← hf] at hP hsn hbl;clear hf;have hsub:=hP.ob.sub;have hlook:=fun K'=>SM.look (K:=K') (s:=q.left) hP.bm hP.ob smBy hz
   have hpush:=fun K'=>SM.push (K:=K') (s:=q.left) (x:=(k:Int)) (ta:=108) (b:=8) (fun s s' e=>by cases e; rfl) (fun s e=>by cases e) hP.bm hP.ob smBy hz (fun _=>rfl) YA Wv rfl (by omega) rfl (by omega) (by omega)
   replace hP:=Hold.mk hP;replace hsn:=Hold.mk hsn
   (repeat' (first | (refine Yf mixed (fun _ _ _ _ e h=>⟨e.trans h.1,h.2⟩) H1 hsub ?_) | (refine hlook _ ?_) | (refine hpush _ (fun v' H2 hv hsub2 hup=>?_)) | (refine hup _ (fun H3 B3 ho3 hm3 hf3=>?_)) | (simp only [↓Yt,↓Ya,↓Ye,↓ZZ,↓Yb,↓Ys,↓XF,↓ZY,↓ZF,↓ZD,↓Jg,↓ZG,↓ZH,↓YX,↓ZJ,↓YY,↓ZI,↓ZP,↓Zv,↓ZR,↓ZE,↓ZS,↓Yy,↓YC,↓ZA,↓ZN,↓Wn,↓WO,↓ZX,↓WX,↓Yl,↓Yz,ptrV,Zmd,Zmg,Zmi,Zml,ZmF,ite_true,ite_false,Zl9,Zma,Zmu,ne_eq,not_false_eq_true,true_and,Zme,decide_true,ZmL,Zmw,ZmM,↓Xc,↓Xg,↓Xm,fillV,setAt,eq_self,Zmh,Zmb,and_self,Yq,XV,Zmn,Zmc,WC,Yn,Zcg,WE,XG,Yo,WD,Yp,YG,↓Wy,↓XM,ZB,ZmP,ZmZ,ZmT,ZmX,WH,Yd,ZkC,Xz,Wb,YA,Wv,Xb, *]) | (with_reducible refine And.intro ?_ ?_)))
   all_goals rw [ZQ (n:=(i:Int)+1) (by omega) (by omega)]
   ·exact ⟨H1,⟨hs,k4,k9,k10,rfl,(by simp only [Zv,Zl9,if_false, *]<;>rfl),(by simp only [Zv,Zl9,if_false, *]<;>rfl),(by simp only [Zv,Zl9,if_false, *]<;>rfl),(by simp only [Zv,Zl9,if_false, *]<;>rfl),(by simp only [Zv,Zl9,if_false, *]<;>rfl),(by simp only [Zv,Zl9,if_false, *]<;>rfl)⟩,i+1,by omega,rfl,_,B3,⟨ho3,(hf3 _ (by simp) (by simp)).trans hP.out.chart,(hf3 _ (by simp) (by simp)).trans hP.out.dm,(hf3 _ (by simp) (by simp)).trans hP.out.km,by rw [hsn.out]; exact hm3,(hf3 _ (by simp) (by simp)).trans hP.out.sets,fun i=>(hf3 _ (by simp) (by simp)).trans (hP.out.th i),fun i=>(hf3 _ (by simp) (by simp)).trans (hP.out.wm i),fun i=>(hf3 _ (by simp) (by simp)).trans (hP.out.st i),fun i s=>(hf3 _ (by simp) (by simp)).trans (hP.out.wt i s),fun s=>(hf3 _ (by simp) (by simp)).trans (hP.out.ds s)⟩⟩
   ·omega
  ·have hil:¬ (i:Int)<(P.length:Int):=by omega
   obtain rfl:i=P.length:=by omega
   rw [ZmQ (Zmc _)] at hP;replace hP:=Hold.mk hP;replace hB:=Hold.mk hB
   (repeat' (first | (simp only [↓Zt,Zu,Zma, *])))
   exact hB.out _ H1 _ r4 r9 zr rc rd rk rb vb B ⟨hs,k4,k9,k10,rfl,(by simp only [Zv,Zl9,if_false, *]<;>rfl),(by simp only [Zv,Zl9,if_false, *]<;>rfl),(by simp only [Zv,Zl9,if_false, *]<;>rfl),(by simp only [Zv,Zl9,if_false, *]<;>rfl),(by simp only [Zv,Zl9,if_false, *]<;>rfl),(by simp only [Zv,Zl9,if_false, *]<;>rfl)⟩ hP.out
end Go.PV.Ytfkkmdelpddojaa
end
section
open Bool renaming and_self→Zmp
open Int renaming natCast_nonneg→ZmL,toNat_natCast→Zmw
open List renaming range→Zmm,mem_cons_of_mem→ZmN,mem_cons_self→ZmR,drop_eq_getElem_cons→ZmY,replicate→ZmH,drop→Zmb,length_cons→Zmi,length_nil→Zml,all_cons→Zmz,all_nil→ZmJ
open Nat renaming reduceEqDiff→Zl9,reduceLT→Zma,reduceAdd→Zmj,reduceLeDiff→Zmu,succ_ne_self→Zme,zero_add→Zmh
set_option maxRecDepth 20000
set_option maxHeartbeats 4000000
namespace Go.PV.Ytfkkmdelpddojaa
open Go Go.Proofs
theorem Zhb {f:Nat→List VV} (hf:∀ j,(f j).length=3) (v:VV) {m i c:Nat} (h:i<m) (hc:c<3):(encC f (Zmm m)).set (i * 3+c) v=encC (fun j=>if j=i then (f j).set c v else f j) (Zmm m):=by
 have e:∀ l:List Nat,¬ i∈l→encC (fun j=>if j=i then (f j).set c v else f j) l=encC f l:=by
  intro l
  induction l with
  | nil=>intro _; rfl
  | cons a l ih =>
    intro hl;rw [Yg,Yg,ih (fun h=>hl (ZmN _ h))]
    have:¬ a=i:=fun e=>hl (by rw [e]; exact ZmR ..)
    rw [if_neg this]
 have hs:Zmm m=Zmm i++i::(Zmm m).drop (i+1):=by
  have h1:=(List.take_append_drop i (Zmm m)).symm;rw [ZmY (by simp; omega),List.take_range,Nat.min_eq_left (by omega),List.getElem_range] at h1;exact h1
 have hn:¬ i∈(Zmm m).drop (i+1):=by
  intro h;obtain ⟨k,hk,hke⟩:=List.getElem_of_mem h;rw [List.getElem_drop,List.getElem_range] at hke;omega
 generalize (Zmm m).drop (i+1)=R at *
 rw [hs,YS,Yg,YS,Yg,e _ (by simp),e _ hn];have hl:(encC f (Zmm i)).length=i * 3:=by rw [YO (k:=3) hf]; simp
 rw [List.set_append_right _ _ (by omega),hl,Nat.add_sub_cancel_left,List.set_append_left _ _ (by rw [hf]; omega),if_pos rfl]
theorem Zc4 {α:Type} {f f':α→List VV}:∀ {l:List α},(∀ x∈l,f x=f' x)→encC f l=encC f' l
 | [],_=>rfl
 | x::l,h=>by rw [Yg,Yg,h x (ZmR ..),Zc4 fun y hy=>h y (ZmN _ hy)]
abbrev nilS:VV:=.lit (.slice none 0 0)
abbrev nilM:VV:=.lit (.map none)
def setI (i:Nat) (th wm:Nat→Nat) (j:Nat):List VV:=if j<i then [nilS,mapV (th j),mapV (wm j)] else [nilS,nilM,nilM]
theorem Zf0 (i:Nat) (th wm:Nat→Nat) (j:Nat):(setI i th wm j).length=3:=by unfold setI; split<;>rfl
theorem setI_0 (n:Nat) (th wm:Nat→Nat):(ZmH (n+1) [nilS,nilM,nilM]).flatten=encC (setI 0 th wm) (Zmm (n+1)):=by
 have h:∀ m,(ZmH m [nilS,nilM,nilM]).flatten=encC (setI 0 th wm) (Zmm m):=by
  intro m
  induction m with
  | zero=>rfl
  | succ m ih =>
    rw [List.range_succ,YS,← ih,List.replicate_succ'];simp [Yg,Zbd,setI]
 exact h _
theorem setI_n (n:Nat) (th wm:Nat→Nat):encC (setI (n+1) th wm) (Zmm (n+1))=setsC n (fun _=>nilS) th wm:=Zc4 fun j hj=>by
 rw [List.mem_range] at hj;unfold setI setE;rw [if_pos hj]
theorem setI_set {n i:Nat} (th wm:Nat→Nat) (t w:Nat) (h:i<n+1):((encC (setI i th wm) (Zmm (n+1))).set (i * 3+1) (mapV t)).set (i * 3+2) (mapV w)=encC (setI (i+1) (upV th i t) (upV wm i w)) (Zmm (n+1)):=by
 rw [Zhb (Zf0 _ _ _) _ h (by omega),Zhb (fun j=>by split<;>simp [Zf0]) _ h (by omega)];refine Zc4 fun j hj=>?_
 unfold setI upV;by_cases e:j=i
 ·subst e;rw [if_pos rfl,if_pos rfl,if_neg (by omega),if_pos (by omega),if_pos rfl,if_pos rfl]; rfl
 ·rw [if_neg e,if_neg e,if_neg e,if_neg e];by_cases e2:j<i
  ·rw [if_pos e2,if_pos (by omega)]
  ·rw [if_neg e2,if_neg (by omega)]
structure PB (H1 H:AH) (g:List Pd) (l:List Tk) (n rc rs rd rk rb:Nat) (vb:ByteArray→VV) (by_:ByteArray→List Int) (th wm:Nat→Nat) (i:Nat) (B:OB RK):Prop where
 ob:Objs H1 H B
 chart:B .chart=some (rc,.cells 127 [pdsV g,tksV l,.lit (.slice (some ⟨rs,0,none⟩) (n+1) (n+1)),mapV rd,mapV rk] 0)
 sets:B .sets=some (rs,.cells 122 (encC (setI i th wm) (Zmm (n+1))) 0)
 dm:B .dm=some (rd,.map (ZW Try.prog 124) (kmap spK fun _=>none))
 km:B .km=some (rk,.map (ZW Try.prog 125) (kmap rsK fun _=>none))
 bm:SM B .bm .bs 148 3 1 intE rb vb by_
 th:∀ j,j<i→B (.th j)=some (th j,.map (ZW Try.prog 119) fun _=>none)
 wm:∀ j,j<i→B (.wm j)=some (wm j,.map (ZW Try.prog 120) fun _=>none)
 st:∀ i,B (.st i)=none
 wt:∀ i s,B (.wt i s)=none
 ds:∀ s,B (.ds s)=none
theorem PB.step {H1 H H':AH} {g:List Pd} {l:List Tk} {n rc rs rd rk rb t w i:Nat} {vb:ByteArray→VV} {by_:ByteArray→List Int} {th wm:Nat→Nat} {B:OB RK} (hP:PB H1 H g l n rc rs rd rk rb vb by_ th wm i B) (hi:i<n+1) (ht:H t=none) (hw:H w=none) (htw:¬ w=t)
 (e1:H' t=some (.map (ZW Try.prog 119) fun _=>none)) (e2:H' w=some (.map (ZW Try.prog 120) fun _=>none)) (e3:H' rs=some (.cells 122 (((encC (setI i th wm) (Zmm (n+1))).set (i * 3+1) (mapV t)).set (i * 3+2) (mapV w)) 0)) (e4:∀ r c,¬ r=rs→H r=some c→H' r=some c) :
 ∃ th' wm' B',PB H1 H' g l n rc rs rd rk rb vb by_ th' wm' (i+1) B':=by
 rw [setI_set th wm t w hi] at e3;have o3:=((hP.ob.alloc ht (.th i) (.map (ZW Try.prog 119) fun _=>none)).alloc (z:=w) (by rw [AH.set_ne _ _ htw]; exact hw) (.wm i) (.map (ZW Try.prog 120) fun _=>none)).set ((OB.put_ne _ _ (by simp)).trans ((OB.put_ne _ _ (by simp)).trans hP.sets)) (.cells 122 (encC (setI (i+1) (upV th i t) (upV wm i w)) (Zmm (n+1))) 0)
 have o4:=o3.mono (H':=H') fun r c hr=>by
  by_cases x1:r=rs
  ·subst x1; rw [AH.set_same] at hr; cases hr; exact e3
  ·rw [AH.set_ne _ _ x1] at hr;by_cases x2:r=w
   ·subst x2; rw [AH.set_same] at hr; cases hr; exact e2
   ·rw [AH.set_ne _ _ x2] at hr;by_cases x3:r=t
    ·subst x3; rw [AH.set_same] at hr; cases hr; exact e1
    ·rw [AH.set_ne _ _ x3] at hr; exact e4 r c x1 hr
 have hne:∀ k,¬ k=.sets→¬ k=.wm i→¬ k=.th i→(((B.put (.th i) (some (t,.map (ZW Try.prog 119) fun _=>none))).put (.wm i) (some (w,.map (ZW Try.prog 120) fun _=>none))).put .sets (some (rs,.cells 122 (encC (setI (i+1) (upV th i t) (upV wm i w)) (Zmm (n+1))) 0))) k=B k:=fun k k1 k2 k3=>by rw [OB.put_ne _ _ k1,OB.put_ne _ _ k2,OB.put_ne _ _ k3]
 refine ⟨upV th i t,upV wm i w,_,⟨o4,(hne _ (by simp) (by simp) (by simp)).trans hP.chart,OB.put_same _ _ _,(hne _ (by simp) (by simp) (by simp)).trans hP.dm,(hne _ (by simp) (by simp) (by simp)).trans hP.km,hP.bm.of (hne _ (by simp) (by simp) (by simp)) (fun s=>hne _ (by simp) (by simp) (by simp)),fun j hj=>?_,fun j hj=>?_,fun j=>(hne _ (by simp) (by simp) (by simp)).trans (hP.st j),fun j s=>(hne _ (by simp) (by simp) (by simp)).trans (hP.wt j s),fun s=>(hne _ (by simp) (by simp) (by simp)).trans (hP.ds s)⟩⟩
 ·by_cases e:j=i
  ·subst e; rw [OB.put_ne _ _ (by simp),OB.put_ne _ _ (by simp),OB.put_same]; simp [upV]
  ·rw [hne _ (by simp) (by simp) (by simp [e]),hP.th j (by omega)]; simp [upV,e]
 ·by_cases e:j=i
  ·subst e; rw [OB.put_ne _ _ (by simp),OB.put_same]; simp [upV]
  ·rw [hne _ (by simp) (by simp [e]) (by simp),hP.wm j (by omega)]; simp [upV,e]
def C0:Ch:=⟨fun _=>⟨[],fun _=>[]⟩,fun _=>[]⟩
theorem readB_ok {H0 H1 H:AH} {g:List Pd} {l:List Tk} {sym:ByteArray} {least:Int} {r4 r9 r10 rc rd rk rb:Nat} {vb:ByteArray→VV} {B:OB RK} {A:AF} {K:VE→AH→Prop} (hl:l.length≤20) (hA:RdA H0 H1 g l sym least r4 r9 r10 rc rb A) (hP:PA H1 H g l rc rd rk rb vb (byF g) B)
 (hB:∀ A H2 p,RdA H0 H1 g l sym least r4 r9 r10 rc rb A→p.rc=rc→p.rb=rb→RSat H1 H2 g l l.length p (byF g) C0→ACx ⟨Try.prog,205,none⟩ Zl1 (Jd Try.prog [.tmp 8] K) A H2):ACx ⟨Try.prog,205,none⟩ Zl2 (Jd Try.prog [.tmp 8] K) A H:=by
 obtain ⟨t,d⟩:=A;obtain ⟨hs,k4,k9,k10,hd,h1,h2,h3,h4,h9,h10⟩:=hA;dsimp only at hd h1 h2 h3 h4 h9 h10;subst hd;delta Zl2 Zb Za Ze Zm Zq Zr Zd Zg;have q9:=hP.ob.keep k9;have qc:=hP.ob.at_ _ _ _ hP.chart;have d9:¬ r9=rc:=fun e=>by subst e; rw [hP.ob.new _ _ _ hP.chart] at k9; cases k9
 obtain ⟨m,hm⟩:∃ m,m=l.length+1:=⟨_,rfl⟩
 have hw:IntKind.wrap .i64 ((l.length:Int)+1)=(m:Int):=by rw [ZQ (by omega) (by omega)]; omega
 have hm1:m≤1000:=by omega
 replace hP:=Hold.mk hP;replace hB:=Hold.mk hB;replace hm:=Hold.mk hm;refine YL rfl (fun _ _ _ h=>h) ?_
 (repeat' (first | (simp only [↓Zt,Zu,↓Zeu,vcNil,ptrV,intV,Zl9,Zma,Zmj,Zmu,reduceCtorEq,↓Xm,setAt,Zmb,Int.ofNat_le,Zl6,↓n_make,ZkL,ZkM,↓XM,Jq,YT,ZaN,szT_123,ZaO,Zlj,Zam, *]) | (refine Yf mixed (fun _ _ _ _ e h=>⟨e.trans h.1,h.2⟩) _ (SubH.refl _) ?_) | (refine And.intro (SubH.new (by assumption)) ?_) | (refine Zw fun zr zh=>?_; have zg:=zh; (try simp only [AH.set_none] at zg); (try have zn_q9:=AH.ne_of q9 zh); (try have zn_q9:=AH.ne_of q9 zg.2); (try have zn_q9:=AH.ne_of q9 zg.2.2); (try have zn_q9:=AH.ne_of q9 zg.2.2.2); (try have zn_q9:=AH.ne_of q9 zg.2.2.2.2); (try have zn_qc:=AH.ne_of qc zh); (try have zn_qc:=AH.ne_of qc zg.2); (try have zn_qc:=AH.ne_of qc zg.2.2); (try have zn_qc:=AH.ne_of qc zg.2.2.2); (try have zn_qc:=AH.ne_of qc zg.2.2.2.2)) | (with_reducible refine And.intro ?_ ?_)))
 ·omega
 ·omega
 replace hm:=hm.out
 have hfl:List.map VV.lit (ZmH m [Value.slice none 0 0,Value.map none,Value.map none]).flatten=encC (setI 0 (fun _=>0) (fun _=>0)) (Zmm (l.length+1)):=by
  rw [hm,← setI_0]; simp [List.map_flatten,List.map_replicate]
 rw [hfl,hm];have hP:=hP.out;have ho:=(hP.ob.alloc zh .sets (.cells 122 (encC (setI 0 (fun _=>0) (fun _=>0)) (Zmm (l.length+1))) 0)).set ((OB.put_ne _ _ (by simp)).trans hP.chart) (.cells 127 [pdsV g,tksV l,.lit (.slice (some ⟨zr,0,none⟩) (l.length+1) (l.length+1)),mapV rd,mapV rk] 0)
 have hPB:=PB.mk (vb:=vb) (by_:=byF g) ho (OB.put_same _ _ _) ((OB.put_ne _ _ (by simp)).trans (OB.put_same _ _ _)) ((OB.put_ne _ _ (by simp)).trans ((OB.put_ne _ _ (by simp)).trans hP.dm)) ((OB.put_ne _ _ (by simp)).trans ((OB.put_ne _ _ (by simp)).trans hP.km))
  (hP.bm.of ((OB.put_ne _ _ (by simp)).trans (OB.put_ne _ _ (by simp))) fun s=>(OB.put_ne _ _ (by simp)).trans (OB.put_ne _ _ (by simp))) (fun j hj=>by omega) (fun j hj=>by omega) (fun i=>(OB.put_ne _ _ (by simp)).trans ((OB.put_ne _ _ (by simp)).trans (hP.st i))) (fun i s=>(OB.put_ne _ _ (by simp)).trans ((OB.put_ne _ _ (by simp)).trans (hP.wt i s))) (fun s=>(OB.put_ne _ _ (by simp)).trans ((OB.put_ne _ _ (by simp)).trans (hP.ds s)))
 have zr1:H1 zr=none:=hP.ob.sub.none zh;have d1:¬ zr=rc:=zn_qc.2;clear ho hP hfl q9 qc hw hm hm1 zn_q9 zn_qc zh zg
 refine YJ (fun _ _ _ h=>h) (fun A H'=>RdA H0 H1 g l sym least r4 r9 r10 rc rb A∧A.t 65=iV (l.length+1:Nat)∧∃ i:Nat,i≤l.length+1∧A.t 66=iV i∧∃ th wm B,PB H1 H' g l l.length rc zr rd rk rb vb (byF g) th wm i B)
  (fun A _=>match A.t 66 with | .lit (.int _ i)=>((l.length+1:Int)-i).toNat | _=>0) ?_ ?_
 ·exact ⟨⟨hs,k4,k9,k10,rfl,(by simp only [Zv,Zl9,if_false, *]<;>rfl),(by simp only [Zv,Zl9,if_false, *]<;>rfl),(by simp only [Zv,Zl9,if_false, *]<;>rfl),(by simp only [Zv,Zl9,if_false, *]<;>rfl),(by simp only [Zv,Zl9,if_false, *]<;>rfl),(by simp only [Zv,Zl9,if_false, *]<;>rfl)⟩,(by simp only [Zv,Zl9,if_true,if_false, *]<;>rfl),0,by omega,(by simp only [Zv,Zl9,if_true,if_false, *]<;>rfl),_,_,_,hPB⟩
 ·clear hPB h1 h2 h3 h4 h9 h10;rintro ⟨t,d⟩ H' ⟨hA,h65,i,hi,h66,th,wm,B,hP⟩;obtain ⟨hs,k4,k9,k10,hd,h1,h2,h3,h4,h9,h10⟩:=hA;dsimp only at hd h1 h2 h3 h4 h9 h10 h65 h66;subst hd;delta b43_2 Zn Zr Za Zc Zb Zq Zd Zk Zs Zg Zm;by_cases hlt:i<l.length+1
  ·have hil:(i:Int)<((l.length+1:Nat):Int):=by omega
   have qc:=hP.ob.at_ _ _ _ hP.chart;have qs:=hP.ob.at_ _ _ _ hP.sets;have hsl:(encC (setI i th wm) (Zmm (l.length+1))).length=(l.length+1) * 3:=by rw [YO (k:=3) (Zf0 _ _ _)]; simp
   have hl1:i * 3+1≤(encC (setI i th wm) (Zmm (l.length+1))).length:=by omega
   have hl2:i * 3+2≤(encC (setI i th wm) (Zmm (l.length+1))).length:=by omega
   obtain ⟨Hh,hsub,g9,gc,gs⟩:∃ Hh:AH,SubH Hh H'∧Hh r9=some (.cells 93 [ptrV rc 0] 0)∧Hh rc=some (.cells 127 [pdsV g,tksV l,.lit (.slice (some ⟨zr,0,none⟩) (l.length+1) (l.length+1)),mapV rd,mapV rk] 0)∧Hh zr=none :=
    ⟨H1.set rc _,fun r b hr=>by
      by_cases e:r=rc
      ·subst e; rw [AH.set_same] at hr; cases hr; exact qc
      ·rw [AH.set_ne _ _ e] at hr; exact hP.ob.sub _ _ hr,(AH.set_ne _ _ d9).trans k9,AH.set_same _ _ _,(AH.set_ne _ _ d1).trans zr1⟩
   replace hP:=Hold.mk hP
   (repeat' (first | (refine Yf mixed (fun _ _ _ _ e h=>⟨e.trans h.1,h.2⟩) Hh hsub ?_) | (simp only [↓Yt,↓Ya,↓Ye,↓ZZ,↓Yb,↓Ys,↓XF,↓ZY,↓ZF,↓ZD,↓Jg,↓ZG,↓ZH,↓YX,↓ZJ,↓YY,↓ZI,↓ZP,↓Zv,↓ZR,↓ZE,↓ZS,↓YR,↓Yh,↓Yy,↓Zd9,↓ZA,↓ZN,↓Yl,↓Yz,vcNil,ptrV,Zmi,Zml,ite_true,ite_false,Zl9,Zma,ne_eq,not_false_eq_true,true_and,Zme,decide_true,ZmL,Zmw,↓Xc,↓Xg,↓Xm,↓s_plTwo,AH.get,AH.set_set,setAt,Zmz,ZmJ,Zmp,eq_self,Zmh,Zmb,and_self,Yq,Zkk,Zkl,Yn,YK,Zfk,Zcz,Yo,Yp,YG,Wf,Wg,↓Wy,↓XM,Zek,Jq,Zd6,Zd7,YT,ZaN,szT_119,szT_120,ZaO, *]) | (refine Zw fun zr zh=>?_; have zg:=zh; (try simp only [AH.set_none] at zg); (try have zn_g9:=AH.ne_of g9 zh); (try have zn_g9:=AH.ne_of g9 zg.2); (try have zn_g9:=AH.ne_of g9 zg.2.2); (try have zn_g9:=AH.ne_of g9 zg.2.2.2); (try have zn_g9:=AH.ne_of g9 zg.2.2.2.2); (try have zn_gc:=AH.ne_of gc zh); (try have zn_gc:=AH.ne_of gc zg.2); (try have zn_gc:=AH.ne_of gc zg.2.2); (try have zn_gc:=AH.ne_of gc zg.2.2.2); (try have zn_gc:=AH.ne_of gc zg.2.2.2.2); (try have zn_qs:=AH.ne_of qs zh); (try have zn_qs:=AH.ne_of qs zg.2); (try have zn_qs:=AH.ne_of qs zg.2.2); (try have zn_qs:=AH.ne_of qs zg.2.2.2); (try have zn_qs:=AH.ne_of qs zg.2.2.2.2)) | (refine SubH.of_set ?_ ?_) | (exact SubH.none (by assumption) (by assumption)) | (exact SubH.none (by assumption) zg.2) | (exact SubH.none (by assumption) zg.2.2) | (with_reducible refine And.intro ?_ ?_)))
   all_goals first | (rw [List.length_set,hsl]; omega) | omega | skip
   all_goals try exact ⟨hs,k4,k9,k10,rfl,(by simp only [Zv,Zl9,if_false, *]<;>rfl),(by simp only [Zv,Zl9,if_false, *]<;>rfl),(by simp only [Zv,Zl9,if_false, *]<;>rfl),(by simp only [Zv,Zl9,if_false, *]<;>rfl),(by simp only [Zv,Zl9,if_false, *]<;>rfl),(by simp only [Zv,Zl9,if_false, *]<;>rfl)⟩
   all_goals rw [ZQ (n:=(i:Int)+1) (by omega) (by omega)]
   all_goals try omega
   all_goals obtain ⟨z1,z2⟩:=zg
   all_goals rename_i z0 w1 w2
   ·refine ⟨i+1,by omega,rfl,hP.out.step hlt w1 z2 z1.1 (by simp only [AH.get, *,if_true,if_false]<;>rfl) (by simp only [AH.get, *,if_true,if_false]<;>rfl) (by simp only [AH.get, *,if_true,if_false]<;>rfl) fun r c x hr=>?_⟩;have y1:¬ r=z0:=fun e=>by rw [e,w1] at hr; cases hr
    have y2:¬ r=zr:=fun e=>by rw [e,z2] at hr; cases hr
    simp only [AH.get,x,y1,y2,if_false,hr]
   ·refine ⟨i+1,by omega,rfl,hP.out.step hlt w1 z2.2 z2.1.1 (by simp only [AH.get, *,if_true,if_false]<;>rfl) (by simp only [AH.get, *,if_true,if_false]<;>rfl) (by simp only [AH.get, *,if_true,if_false]<;>rfl) fun r c x hr=>?_⟩;have y1:¬ r=z0:=fun e=>by rw [e,w1] at hr; cases hr
    have y2:¬ r=zr:=fun e=>by rw [e,z2.2] at hr; cases hr
    simp only [AH.get,x,y1,y2,if_false,hr]
   ·refine ⟨i+1,by omega,rfl,hP.out.step hlt z2 w1 z1.2 (by simp only [AH.get, *,if_true,if_false]<;>rfl) (by simp only [AH.get, *,if_true,if_false]<;>rfl) (by simp only [AH.get, *,if_true,if_false]<;>rfl) fun r c x hr=>?_⟩;have y1:¬ r=z0:=fun e=>by rw [e,w1] at hr; cases hr
    have y2:¬ r=zr:=fun e=>by rw [e,z2] at hr; cases hr
    simp only [AH.get,x,y1,y2,if_false,hr]
  ·have hil:¬ (i:Int)<((l.length+1:Nat):Int):=by omega
   obtain rfl:i=l.length+1:=by omega
   have hR:RSat H1 H' g l l.length ⟨rc,zr,rd,rk,rb,th,wm,fun _ _=>nilS,fun _=>nilS,vb⟩ (byF g) C0:=by
    refine ⟨fun _=>nilS,B,⟨hP.ob,hP.chart,?_,fun i hi=>?_,fun i hi=>?_,?_,?_,?_,fun i hi=>?_,fun i hi s=>?_,fun s=>?_,fun s=>?_,fun i hi s _=>?_,fun s _=>?_⟩⟩
    ·rw [← setI_n]; exact hP.sets
    ·refine (hP.th i (by omega)).trans ?_;rw [ZdB (kf:=stK)];simp [C0]
    ·refine (hP.wm i (by omega)).trans ?_;rw [ZiY];simp [C0]
    ·simp [C0]; exact hP.dm
    ·exact hP.km
    ·exact hP.bm.map
    ·exact SlO.none _ _ _ _ (hP.st i)
    ·exact SlO.none _ _ _ _ (hP.wt i s)
    ·exact SlO.none _ _ _ _ (hP.ds s)
    ·exact hP.bm.own s
    ·exact hP.wt i s
    ·exact hP.ds s
   replace hP:=Hold.mk hP;replace hR:=Hold.mk hR
   (repeat' (first | (simp only [↓Zt,Zu,Zma, *])))
   exact hB.out _ _ _ ⟨hs,k4,k9,k10,rfl,(by simp only [Zv,Zl9,if_false, *]<;>rfl),(by simp only [Zv,Zl9,if_false, *]<;>rfl),(by simp only [Zv,Zl9,if_false, *]<;>rfl),(by simp only [Zv,Zl9,if_false, *]<;>rfl),(by simp only [Zv,Zl9,if_false, *]<;>rfl),(by simp only [Zv,Zl9,if_false, *]<;>rfl)⟩ rfl rfl hR.out
end Go.PV.Ytfkkmdelpddojaa
end
section
open List renaming append_nil→ZmF,append_assoc→Zm7,length_append→ZmB,getElem?_eq_none→ZmS,length_take→ZmV
open Nat renaming le_refl→Zmc,zero_le→ZmU
set_option maxRecDepth 20000
set_option maxHeartbeats 4000000
namespace Go.PV.Ytfkkmdelpddojaa
open Go Go.Proofs
def Ch.wait (C:Ch) (i:Nat) (s:ByteArray) (x:St):Ch:={ C with sets:=upS C.sets i { C.sets i with wt:=upB (C.sets i).wt s ((C.sets i).wt s++[x]) } }
def Xf (g:List Pd) (x:St):Option It:=(pdAt g x.prod).items[x.dot]?
def stepR (g:List Pd) (l:List Tk) (by_:ByteArray→List Int) (i:Nat) (C:Ch) (x:St):Ch:=match Xf g x with
 | none=>complF g x i C
 | some it=>if it.kind=3 then predF g by_ i it.text it.prio (C.wait i it.text x) else match l[i]? with
   | some t=>if takeF it t=true then C.add (i+1) ⟨x.prod,x.dot+1,x.start⟩ else C
   | none=>C
def setR (g:List Pd) (l:List Tk) (by_:ByteArray→List Int) (i:Nat):Nat→Nat→Ch→Ch
 | 0,_,C=>C
 | f+1,k,C=>match (C.sets i).st[k]? with
   | some x=>setR g l by_ i f (k+1) (stepR g l by_ i C x)
   | none=>C
def readR (g:List Pd) (l:List Tk) (by_:ByteArray→List Int):Nat→Nat→Ch→Ch
 | 0,_,C=>C
 | m+1,i,C=>if (C.sets i).st=[] then C else readR g l by_ m (i+1) (setR g l by_ i 20001 0 C)
def readF (g:List Pd) (sym:ByteArray) (least:Int) (l:List Tk):Ch:=readR g l (byF g) (l.length+1) 0 (predF g (byF g) 0 sym least C0)
def Ch.sorted (C:Ch):Ch:={ C with done:=fun s=>srtI (C.done s) }
structure ExtC (i:Nat) (C C':Ch):Prop where
 old:∀ j,j<i→(C'.sets j).st=(C.sets j).st
 pre:∀ j,∃ l,(C'.sets j).st=(C.sets j).st++l
 wt:∀ j,(C'.sets j).wt=(C.sets j).wt
 done:C'.done=C.done
theorem ExtC.refl (i:Nat) (C:Ch):ExtC i C C:=⟨fun _ _=>rfl,fun _=>⟨[],(ZmF _).symm⟩,fun _=>rfl,rfl⟩
theorem ExtC.trans {i:Nat} {A B C:Ch} (h:ExtC i A B) (h':ExtC i B C):ExtC i A C:=⟨fun j hj=>(h'.old j hj).trans (h.old j hj),fun j=>by
 obtain ⟨a,ha⟩:=h.pre j;obtain ⟨b,hb⟩:=h'.pre j;exact ⟨a++b,by rw [hb,ha,Zm7]⟩,fun j=>(h'.wt j).trans (h.wt j),h'.done.trans h.done⟩
theorem Zil (C:Ch) (i:Nat) (x:St) (j:Nat):((C.add i x).sets j).st=if j=i∧¬ x∈(C.sets i).st then (C.sets j).st++[x] else (C.sets j).st:=by
 unfold Ch.add;by_cases h:x∈(C.sets i).st
 ·rw [if_pos h,if_neg (fun h'=>h'.2 h)]
 ·rw [if_neg h];show (upS _ _ _ j).st=_;unfold upS;by_cases e:j=i
  ·subst e; rw [if_pos rfl,if_pos ⟨rfl,h⟩]
  ·rw [if_neg e,if_neg (fun h'=>e h'.1)]
theorem ExtC.add {i j:Nat} (C:Ch) (x:St) (h:i≤j):ExtC i C (C.add j x):=⟨fun k hk=>by rw [Zil,if_neg (fun h'=>by omega)],fun k=>by
 rw [Zil]; split
 ·exact ⟨_,rfl⟩
 ·exact ⟨[],(ZmF _).symm⟩,fun k=>add_wt _ _ _ _,add_done _ _ _⟩
theorem ExtC.fold {α:Type} {i:Nat} {f:Ch→α→Ch} (h:∀ C a,ExtC i C (f C a)):∀ (l:List α) (C:Ch),ExtC i C (l.foldl f C)
 | [],C=>.refl _ _
 | a::l,C=>(h C a).trans (ExtC.fold h l _)
theorem ZlC (g:List Pd) (i:Nat) (least:Int) (C:Ch) (k:Int):ExtC i C (predK g i least C k):=by
 unfold predK; split
 ·exact .add _ _ (Zmc _)
 ·exact .refl _ _
theorem Zem (g:List Pd) (by_:ByteArray→List Int) (i:Nat) (s:ByteArray) (least:Int) (C:Ch):ExtC i C (predF g by_ i s least C):=ExtC.fold (ZlC g i least) _ _
theorem Zj0 (g:List Pd) (q:Pd) (i:Nat) (C:Ch) (w:St):ExtC i C (complK g q i C w):=by
 unfold complK; split
 ·exact .add _ _ (Zmc _)
 ·exact .refl _ _
def prS (C:Ch) (i k j:Nat):List St:=if j<i then (C.sets j).st else if j=i then (C.sets j).st.take k else []
def isWt (g:List Pd) (s:ByteArray) (x:St):Bool:=match Xf g x with
 | some it=>decide (it.kind=3) && decide (it.text=s)
 | none=>false
def isDn (g:List Pd) (s:Nat) (x:St):Bool:=(Xf g x).isNone && decide (x.start=s)
def ZcK (g:List Pd) (L:List St) (s:ByteArray):List St:=L.filter (isWt g s)
def ZcL (g:List Pd) (L:List St) (s:Nat):List Int:=(L.filter (isDn g s)).map fun x=>(x.prod:Int)
structure Rd (g:List Pd) (n:Nat) (C:Ch) (i k:Nat):Prop where
 gd:Gd g n C
 kl:k≤(C.sets i).st.length
 wt:∀ j s,j≤n→(C.sets j).wt s=ZcK g (prS C i k j) s
 dn:∀ s e,C.done (s,e)=ZcL g (prS C i k e) s
theorem ZkX {C C':Ch} {i k:Nat} (h:ExtC i C C') (hk:k≤(C.sets i).st.length) (j:Nat):prS C' i k j=prS C i k j:=by
 unfold prS;by_cases h1:j<i
 ·rw [if_pos h1,if_pos h1]; exact h.old j h1
 ·rw [if_neg h1,if_neg h1];by_cases h2:j=i
  ·subst h2;rw [if_pos rfl,if_pos rfl];obtain ⟨l,hl⟩:=h.pre j;rw [hl,List.take_append_of_le_length hk]
  ·rw [if_neg h2,if_neg h2]
theorem Rd.ext {g:List Pd} {n i k:Nat} {C C':Ch} (h:Rd g n C i k) (he:ExtC i C C') (hg:Gd g n C'):Rd g n C' i k:=⟨hg,by
 obtain ⟨l,hl⟩:=he.pre i;rw [hl,ZmB]
 have:=h.kl
 omega,fun j s hj=>by rw [he.wt,ZkX he h.kl]; exact h.wt j s hj,fun s e=>by rw [he.done,ZkX he h.kl]; exact h.dn s e⟩
theorem Zbj {C:Ch} {i k:Nat} {x:St} (hx:(C.sets i).st[k]?=some x) (j:Nat):prS C i (k+1) j=if j=i then prS C i k j++[x] else prS C i k j:=by
 unfold prS;by_cases h1:j<i
 ·rw [if_pos h1,if_pos h1,if_neg (by omega)]
 ·rw [if_neg h1,if_neg h1];by_cases h2:j=i
  ·subst h2;rw [if_pos rfl,if_pos rfl,if_pos rfl];obtain ⟨hk,rfl⟩:=List.getElem?_eq_some_iff.1 hx;exact XK hk
  ·rw [if_neg h2,if_neg h2,if_neg h2]
theorem Zb0 (g:List Pd) (L:List St) (x:St) (s:ByteArray):ZcK g (L++[x]) s=if isWt g s x=true then ZcK g L s++[x] else ZcK g L s:=by
 unfold ZcK;rw [List.filter_append];by_cases h:isWt g s x=true
 ·rw [if_pos h]; simp [h]
 ·rw [if_neg h]; simp [h]
theorem Zb1 (g:List Pd) (L:List St) (x:St) (s:Nat):ZcL g (L++[x]) s=if isDn g s x=true then ZcL g L s++[(x.prod:Int)] else ZcL g L s:=by
 unfold ZcL;rw [List.filter_append];by_cases h:isDn g s x=true
 ·rw [if_pos h]; simp [h]
 ·rw [if_neg h]; simp [h]
theorem Rd.kl' {g:List Pd} {n i k:Nat} {C:Ch} {x:St} (hx:(C.sets i).st[k]?=some x):k+1≤(C.sets i).st.length:=by
 obtain ⟨hk,rfl⟩:=List.getElem?_eq_some_iff.1 hx;omega
theorem Rd.next {g:List Pd} {n i k:Nat} {C:Ch} {x:St} {it:It} (h:Rd g n C i k) (hx:(C.sets i).st[k]?=some x) (hi:Xf g x=some it) (h3:¬ it.kind=3):Rd g n C i (k+1):=by
 refine ⟨h.gd,Rd.kl' (g:=g) (n:=n) hx,fun j s hj=>?_,fun s e=>?_⟩
 ·rw [Zbj hx,h.wt j s hj];split
  ·rw [Zb0,if_neg (by simp [isWt,hi,h3])]
  ·rfl
 ·rw [Zbj hx,h.dn s e];split
  ·rw [Zb1,if_neg (by simp [isDn,hi])]
  ·rfl
theorem Rd.wait {g:List Pd} {n i k:Nat} {C:Ch} {x:St} {it:It} (h:Rd g n C i k) (hn:i≤n) (hx:(C.sets i).st[k]?=some x) (hi:Xf g x=some it) (h3:it.kind=3):Rd g n (C.wait i it.text x) i (k+1):=by
 have hst:∀ j,((C.wait i it.text x).sets j).st=(C.sets j).st:=fun j=>by
  show (upS _ _ _ j).st=_;unfold upS; split
  ·rename_i e; rw [e]
  ·rfl
 have hpr:∀ j,prS (C.wait i it.text x) i (k+1) j=prS C i (k+1) j:=fun j=>by unfold prS; rw [hst]
 have hwt:∀ j s,((C.wait i it.text x).sets j).wt s=if j=i∧s=it.text then (C.sets j).wt s++[x] else (C.sets j).wt s:=fun j s=>by
  show (upS _ _ _ j).wt s=_;unfold upS;by_cases e:j=i
  ·subst e;rw [if_pos rfl];show upB _ _ _ s=_;unfold upB;by_cases e2:s=it.text
   ·subst e2; rw [if_pos rfl,if_pos ⟨rfl,rfl⟩]
   ·rw [if_neg e2,if_neg (fun h=>e2 h.2)]
  ·rw [if_neg e,if_neg (fun h=>e h.1)]
 refine ⟨⟨fun j hj=>by rw [hst]; exact h.gd.nd j hj,fun j hj y hy=>by rw [hst] at hy; exact h.gd.ok j hj y hy⟩,by rw [hst]; exact Rd.kl' (g:=g) (n:=n) hx,fun j s hj=>?_,fun s e=>?_⟩
 ·rw [hwt,hpr,Zbj hx,h.wt j s hj];by_cases e:j=i
  ·subst e;rw [if_pos rfl,Zb0];by_cases e2:s=it.text
   ·subst e2; rw [if_pos ⟨rfl,rfl⟩,if_pos (by simp [isWt,hi,h3])]
   ·have e2':¬ it.text=s:=fun e=>e2 e.symm
    rw [if_neg (fun h=>e2 h.2),if_neg (by simp [isWt,hi,h3,e2'])]
  ·rw [if_neg (fun h=>e h.1),if_neg e]
 ·show C.done (s,e)=_;rw [hpr,Zbj hx,h.dn s e];split
  ·rw [Zb1,if_neg (by simp [isDn,hi])]
  ·rfl
theorem Rd.fin {g:List Pd} {n i k:Nat} {C:Ch} {x:St} (h:Rd g n C i k) (hx:(C.sets i).st[k]?=some x) (hi:Xf g x=none):Rd g n (C.fin (x.start,i) x.prod) i (k+1):=by
 have hpr:∀ j,prS (C.fin (x.start,i) x.prod) i (k+1) j=prS C i (k+1) j:=fun j=>rfl
 refine ⟨⟨h.gd.nd,h.gd.ok⟩,Rd.kl' (g:=g) (n:=n) hx,fun j s hj=>?_,fun s e=>?_⟩
 ·show (C.sets j).wt s=_;rw [hpr,Zbj hx,h.wt j s hj];split
  ·rw [Zb0,if_neg (by simp [isWt,hi])]
  ·rfl
 ·show (if (s,e)=(x.start,i) then C.done (s,e)++[(x.prod:Int)] else C.done (s,e))=_;rw [hpr,Zbj hx,h.dn s e];by_cases e1:e=i
  ·subst e1;rw [if_pos rfl,Zb1];by_cases e2:s=x.start
   ·subst e2; rw [if_pos rfl,if_pos (by simp [isDn,hi])]
   ·have e2':¬ x.start=s:=fun e=>e2 e.symm
    rw [if_neg (by simp [e2]),if_neg (by simp [isDn,hi,e2'])]
  ·rw [if_neg (by simp [e1]),if_neg e1]
theorem ZkY {g:List Pd} {n i k j:Nat} {C:Ch} {s:ByteArray} (h:Rd g n C i k) (hj:j≤n):∀ w∈(C.sets j).wt s,okW g n w:=fun w hw=>by
 rw [h.wt j s hj] at hw;obtain ⟨h1,h2⟩:=List.mem_filter.1 hw
 have hm:w∈(C.sets j).st:=by
  unfold prS at h1;split at h1
  ·exact h1
  ·split at h1
   ·exact List.mem_of_mem_take h1
   ·cases h1
 obtain ⟨a1,a2,a3⟩:=h.gd.ok j hj w hm;refine ⟨a1,?_,a3⟩;unfold isWt Xf at h2;by_cases e:w.dot<(pdAt g w.prod).items.length
 ·exact e
 ·rw [ZmS (by omega)] at h2; cases h2
theorem ZkZ {g:List Pd} {n i k j:Nat} {C:Ch} (hG:GOk g n) (h:Rd g n C i k) (hj:j≤n):(prS C i k j).length≤20000:=by
 have:=h.gd.len hG hj
 unfold prS;split
 ·exact this
 ·split
  ·rw [ZmV]; omega
  ·exact ZmU _
theorem Zi6 {g:List Pd} {n i k j:Nat} {C:Ch} {s:ByteArray} (hG:GOk g n) (h:Rd g n C i k) (hj:j≤n):((C.sets j).wt s).length≤20000:=by
 rw [h.wt j s hj];exact Nat.le_trans (List.length_filter_le _ _) (ZkZ hG h hj)
theorem done_len {g:List Pd} {n i k:Nat} {C:Ch} (hG:GOk g n) (h:Rd g n C i k) (s e:Nat) (he:e≤n):(C.done (s,e)).length≤20000:=by
 rw [h.dn s e];unfold ZcL;rw [List.length_map];exact Nat.le_trans (List.length_filter_le _ _) (ZkZ hG h he)
end Go.PV.Ytfkkmdelpddojaa
end
section
open Bool renaming and_eq_true→ZmA
open List renaming mem_cons_self→ZmR,mem_cons_of_mem→ZmN,getElem_mem→ZmE,nodup_nil→Zm0
open Nat renaming zero_le→ZmU
set_option maxRecDepth 20000
set_option maxHeartbeats 4000000
namespace Go.PV.Ytfkkmdelpddojaa
open Go Go.Proofs
def inBy (g:List Pd) (by_:ByteArray→List Int):Prop:=∀ s,∀ k∈by_ s,0≤k∧k<(g.length:Int)
theorem Zdr (g:List Pd):inBy g (byF g):=fun s k hk=>ZfZ g k (List.mem_filter.1 hk).1
theorem byF_len (g:List Pd) (s:ByteArray):(byF g s).length≤g.length:=Nat.le_trans (ZkW g _ s) (Zha g)
theorem Gd.fold {α:Type} {g:List Pd} {n:Nat} {f:Ch→α→Ch}:∀ {l:List α} {C:Ch},Gd g n C→(∀ C,∀ a∈l,Gd g n C→Gd g n (f C a))→Gd g n (l.foldl f C)
 | [],_,h,_=>h
 | a::l,C,h,hf=>Gd.fold (l:=l) (C:=f C a) (hf C a (ZmR ..) h) fun C b hb=>hf C b (ZmN _ hb)
theorem Gd.predF {g:List Pd} {n i:Nat} {by_:ByteArray→List Int} {s:ByteArray} {least:Int} {C:Ch} (hby:inBy g by_) (h:Gd g n C) (hi:i≤n):Gd g n (predF g by_ i s least C):=Gd.fold h fun C k hk h=>h.predK hi (hby s k hk)
theorem ZfD (g:List Pd) (x:St) (i:Nat) (C:Ch):ExtC i (C.fin (x.start,i) x.prod) (complF g x i C):=ExtC.fold (Zj0 g _ i) _ _
theorem Gd.complF {g:List Pd} {n i:Nat} {x:St} {C:Ch} (h:Gd g n C) (hi:i≤n) (hw:∀ w∈(C.sets x.start).wt (pdAt g x.prod).left,okW g n w):Gd g n (complF g x i C):=Gd.fold (C:=C.fin (x.start,i) x.prod) ⟨h.nd,h.ok⟩ fun C w hm h=>h.complK hi (hw w hm)
theorem Rd.step {g:List Pd} {l:List Tk} {i k:Nat} {by_:ByteArray→List Int} {C:Ch} {x:St} (hby:inBy g by_) (h:Rd g l.length C i k) (hi:i≤l.length) (hx:(C.sets i).st[k]?=some x):Rd g l.length (stepR g l by_ i C x) i (k+1):=by
 obtain ⟨hk,hxe⟩:=List.getElem?_eq_some_iff.1 hx;obtain ⟨a1,a2,a3⟩:=h.gd.ok i hi x (by rw [← hxe]; exact ZmE hk);unfold stepR;split
 ·rename_i he;exact (h.fin hx he).ext (ZfD g x i C) (h.gd.complF hi (ZkY h a3))
 ·rename_i it he;by_cases h3:it.kind=3
  ·rw [if_pos h3];have hw:=h.wait hi hx he h3;exact hw.ext (Zem _ _ _ _ _ _) (hw.gd.predF hby hi)
  ·rw [if_neg h3];have hn:=h.next hx he h3;split
   ·rename_i t ht;split
    ·refine hn.ext (ExtC.add _ _ (by omega)) (hn.gd.add ⟨a1,?_,a3⟩);unfold Xf at he;obtain ⟨hlt,_⟩:=List.getElem?_eq_some_iff.1 he;exact hlt
    ·exact hn
   ·exact hn
theorem Rd.up {g:List Pd} {n i:Nat} {C:Ch} (h:Rd g n C i (C.sets i).st.length):Rd g n C (i+1) 0:=by
 have hp:∀ j,prS C (i+1) 0 j=prS C i (C.sets i).st.length j:=fun j=>by
  unfold prS;by_cases h1:j<i
  ·rw [if_pos h1,if_pos (by omega)]
  ·rw [if_neg h1];by_cases h2:j=i
   ·subst h2; rw [if_pos rfl,if_pos (by omega),List.take_length]
   ·rw [if_neg h2,if_neg (by omega)]
    split<;>simp
 exact ⟨h.gd,ZmU _,fun j s hj=>by rw [hp]; exact h.wt j s hj,fun s e=>by rw [hp]; exact h.dn s e⟩
theorem ZfE {g:List Pd} {l:List Tk} {i:Nat} {by_:ByteArray→List Int} (hG:GOk g l.length) (hby:inBy g by_) (hi:i≤l.length):∀ (f k:Nat) (C:Ch),Rd g l.length C i k→20000<f+k→Rd g l.length (setR g l by_ i f k C) (i+1) 0
 | 0,k,C,h,hf=>by
   have:=h.gd.len hG hi
   have:=h.kl
   omega
 | f+1,k,C,h,hf=>by
   unfold setR;split
   ·rename_i x hx;exact ZfE hG hby hi f (k+1) _ (h.step hby hi hx) (by omega)
   ·rename_i hx;have h1:=List.getElem?_eq_none_iff.1 hx;have h2:=h.kl
    have:k=(C.sets i).st.length:=by omega
    subst this;exact h.up
theorem C0_rd (g:List Pd) (n:Nat):Rd g n C0 0 0:=⟨⟨fun _ _=>Zm0,fun _ _ _ h=>by cases h⟩,ZmU _,fun j s _=>by
 have:prS C0 0 0 j=[]:=by unfold prS; split; · omega
                          ·split<;>rfl
 rw [this]; rfl,fun s e=>by
 have:prS C0 0 0 e=[]:=by unfold prS; split; · omega
                          ·split<;>rfl
 rw [this]; rfl⟩
theorem ZdG {g:List Pd} {n:Nat} {by_:ByteArray→List Int} (hby:inBy g by_) (sym:ByteArray) (least:Int):Rd g n (predF g by_ 0 sym least C0) 0 0:=(C0_rd g n).ext (Zem _ _ _ _ _ _) ((C0_rd g n).gd.predF hby (ZmU _))
theorem ZhV {g:List Pd} {n i k:Nat} {C:Ch} (h:Rd g n C i k) (s e:Nat) (he:e≤n):(C.done (s,e)).Nodup∧∀ q∈C.done (s,e),0≤q∧q<(g.length:Int):=by
 rw [h.dn s e]
 have hsub:∀ x∈prS C i k e,x∈(C.sets e).st:=fun x hx=>by
  unfold prS at hx;split at hx
  ·exact hx
  ·split at hx
   ·exact List.mem_of_mem_take hx
   ·cases hx
 have hnd:(prS C i k e).Nodup:=by
  unfold prS;split
  ·exact h.gd.nd e he
  ·split
   ·exact (h.gd.nd e he).sublist (List.take_sublist _ _)
   ·exact Zm0
 have hok:∀ x∈(prS C i k e).filter (isDn g s),okS g n x∧x.dot=(pdAt g x.prod).items.length∧x.start=s:=fun x hx=>by
  obtain ⟨h1,h2⟩:=List.mem_filter.1 hx;have h3:=h.gd.ok e he x (hsub x h1);unfold isDn Xf at h2;simp only [ZmA,Option.isNone_iff_eq_none,decide_eq_true_eq,List.getElem?_eq_none_iff] at h2;exact ⟨h3,Nat.le_antisymm h3.2.1 h2.1,h2.2⟩
 constructor
 ·refine Zej (hnd.sublist List.filter_sublist) fun a ha b hb e=>?_
  obtain ⟨a1,a2,a3⟩:=hok a ha;obtain ⟨b1,b2,b3⟩:=hok b hb;have e':a.prod=b.prod:=by omega
  obtain ⟨p,d,t⟩:=a;obtain ⟨p',d',t'⟩:=b;simp only at *
  subst e';rw [a2,b2,a3,b3]
 ·intro q hq;obtain ⟨x,hx,rfl⟩:=List.mem_map.1 hq
  have:=(hok x hx).1.1
  omega
end Go.PV.Ytfkkmdelpddojaa
end
section
set_option maxRecDepth 20000
set_option maxHeartbeats 4000000
namespace Go.PV.Ytfkkmdelpddojaa
open Go Go.Proofs
theorem Objs.into {κ:Type} {H1 H:AH} {B:OB κ} {k:κ} {a:Nat} {b:Blk} (h:Objs H1 H B) (hk:B k=some (a,b)):Objs (H1.set a b) H (B.put k none):=by
 have hne:∀ k' a' b',(B.put k none) k'=some (a',b')→¬ k'=k∧B k'=some (a',b'):=fun k' a' b' h'=>by
  by_cases e:k'=k
  ·subst e; rw [OB.put_same] at h'; cases h'
  ·rw [OB.put_ne _ _ e] at h'; exact ⟨e,h'⟩
 refine ⟨fun k1 k2 a' b1 b2 h1 h2=>h.inj _ _ _ _ _ (hne _ _ _ h1).2 (hne _ _ _ h2).2,fun k1 a' b1 h1=>?_,fun r c hr=>?_,fun k1 a' b1 h1=>h.at_ _ _ _ (hne _ _ _ h1).2⟩
 ·obtain ⟨e,h2⟩:=hne _ _ _ h1;rw [AH.set_ne _ _ (h.apart h2 hk e)]; exact h.new _ _ _ h2
 ·by_cases e:r=a
  ·subst e; rw [AH.set_same] at hr; cases hr; exact h.at_ _ _ _ hk
  ·rw [AH.set_ne _ _ e] at hr; exact h.sub _ _ hr
theorem Objs.outof {κ:Type} {H1 H:AH} {B:OB κ} {k:κ} {a:Nat} {b:Blk} (h:Objs (H1.set a b) H B) (ha:H1 a=none) (hk:B k=none):Objs H1 H (B.put k (some (a,b))):=by
 have hs:SubH H1 (H1.set a b):=SubH.new ha;have hx:∀ k' b',B k'=some (a,b')→False:=fun k' b' h'=>by have:=h.new _ _ _ h'; rw [AH.set_same] at this; cases this
 refine ⟨fun k1 k2 a' b1 b2 h1 h2=>?_,fun k1 a' b1 h1=>?_,hs.trans h.sub,fun k1 a' b1 h1=>?_⟩
 ·by_cases e1:k1=k
  ·by_cases e2:k2=k
   ·rw [e1,e2]
   ·subst e1;rw [OB.put_same] at h1;rw [OB.put_ne _ _ e2] at h2;cases h1;exact (hx _ _ h2).elim
  ·by_cases e2:k2=k
   ·subst e2;rw [OB.put_same] at h2;rw [OB.put_ne _ _ e1] at h1;cases h2;exact (hx _ _ h1).elim
   ·rw [OB.put_ne _ _ e1] at h1;rw [OB.put_ne _ _ e2] at h2;exact h.inj _ _ _ _ _ h1 h2
 ·by_cases e1:k1=k
  ·subst e1; rw [OB.put_same] at h1; cases h1; exact ha
  ·rw [OB.put_ne _ _ e1] at h1; exact hs.none (h.new _ _ _ h1)
 ·by_cases e1:k1=k
  ·subst e1; rw [OB.put_same] at h1; cases h1; exact h.sub _ _ (AH.set_same _ _ _)
  ·rw [OB.put_ne _ _ e1] at h1; exact h.at_ _ _ _ h1
abbrev Par.setW (p:Par) (i:Nat) (s:ByteArray) (v:VV):Par:={ p with vw:=fun j=>if j=i then upB (p.vw i) s v else p.vw j }
theorem waits_ok {H1 H:AH} {g:List Pd} {l:List Tk} {n i:Nat} {p:Par} {by_:ByteArray→List Int} {C:Ch} {s:ByteArray} {x:St} (hi:i≤n) (hz:s.size≤maxLen) (hl:((C.sets i).wt s).length≤1099511627776) (h:RSat H1 H g l n p by_ C) :
 ∃ Hb vs,SubH H1 Hb∧SubH Hb H∧Hb p.rs=some (.cells 122 (setsC n vs p.th p.wm) 0)∧SlR H (vs i) (C.sets i).st.length (encC stE (C.sets i).st)∧(∀ K:VE→AH→Prop,K (.ret (slO ((C.sets i).wt s) (p.vw i s))) H→XP Try.prog 120 (mapV (p.wm i)) (sV s) false H K) ∧
   ∀ K:VE→AH→Prop,(∀ v' H',v'.cells=[v']∧VV.one v'=true→SubH Hb H'→(∀ K3:VE→AH→Prop,(∀ H3,RSat H1 H3 g l n (p.setW i s v') by_ (C.wait i s x)→K3 (.ret Zx) H3)→XY Try.prog 120 (mapV (p.wm i)) (sV s) v' H' K3)→K (.ret v') H')→Jf Try.prog 118 (slO ((C.sets i).wt s) (p.vw i s)) (.slice true 1 (stE x)) H K:=by
 obtain ⟨vs,B,h⟩:=h;have hob:=Objs.into h.ob h.sets
 have hsm:SM (B.put .sets none) (.wm i) (.wt i) 120 129 3 stE (p.wm i) (p.vw i) (C.sets i).wt :=
  ⟨(OB.put_ne _ _ (by simp)).trans (h.wm i hi),fun s=>(h.wt i hi s).of (OB.put_ne _ _ (by simp)),fun s hs=>(OB.put_ne _ _ (by simp)).trans (h.wn i hi s hs)⟩
 refine ⟨_,vs,SubH.new (h.ob.new _ _ _ h.sets),hob.sub,AH.set_same _ _ _,(h.st i hi).read h.ob,fun K hK=>hsm.look hob smWt hz hK,fun K hK=>?_⟩;refine SM.push (x:=x) (b:=24) (fun s s' e=>by cases e; rfl) (fun s e=>by cases e) hsm hob smWt hz (fun _=>rfl) XL Wr rfl (by omega) rfl (by omega) (by omega) fun v' H' hv hsub hup=>hK v' H' hv hsub fun K3 hK3=>hup K3 fun H3 B3 ho3 hm3 hf3=>hK3 H3 ?_
 have hS:B3 .sets=none:=(hf3 _ (by simp) (by simp)).trans (OB.put_same _ _ _);have ho:=Objs.outof ho3 (k:=.sets) (h.ob.new _ _ _ h.sets) hS;have hne:∀ k,¬ k=.sets→¬ k=.wm i→¬ k=.wt i s→(B3.put .sets (some (p.rs,.cells 122 (setsC n vs p.th p.wm) 0))) k=B k:=fun k k1 k2 k3=>by rw [OB.put_ne _ _ k1,hf3 k k2 k3,OB.put_ne _ _ k1]
 have hst:∀ j,((C.wait i s x).sets j).st=(C.sets j).st:=fun j=>by
  show (upS _ _ _ j).st=_;unfold upS; split
  ·rename_i e; rw [e]
  ·rfl
 have hwi:((C.wait i s x).sets i).wt=upB (C.sets i).wt s ((C.sets i).wt s++[x]):=by
  show (upS _ _ _ i).wt=_;unfold upS; rw [if_pos rfl]
 have hwj:∀ j,¬ j=i→((C.wait i s x).sets j).wt=(C.sets j).wt:=fun j hj=>by
  show (upS _ _ _ j).wt=_;unfold upS; rw [if_neg hj]
 have hvi:(p.setW i s v').vw i=upB (p.vw i) s v':=if_pos rfl;have hvj:∀ j,¬ j=i→(p.setW i s v').vw j=p.vw j:=fun j hj=>if_neg hj
 refine ⟨vs,_,⟨ho,(hne _ (by simp) (by simp) (by simp)).trans h.chart,OB.put_same _ _ _,fun j hj=>?_,fun j hj=>?_,(hne _ (by simp) (by simp) (by simp)).trans h.dm,(hne _ (by simp) (by simp) (by simp)).trans h.km,(hne _ (by simp) (by simp) (by simp)).trans h.bm,fun j hj=>?_,fun j hj s'=>?_,fun s'=>(h.ds s').of (hne _ (by simp) (by simp) (by simp)),fun s'=>(h.bs s').of (hne _ (by simp) (by simp) (by simp)),fun j hj s' hw=>?_,fun s' hd=>(hne _ (by simp) (by simp) (by simp)).trans (h.dn s' hd)⟩⟩
 ·rw [hst]; exact (hne _ (by simp) (by simp) (by simp)).trans (h.th j hj)
 ·by_cases e:j=i
  ·subst e;rw [hwi,OB.put_ne _ _ (by simp),hvi];exact hm3.map
  ·rw [hwj j e,hne _ (by simp) (by simp [e]) (by simp),hvj j e];exact h.wm j hj
 ·rw [hst]; exact (h.st j hj).of (hne _ (by simp) (by simp) (by simp))
 ·by_cases e:j=i
  ·subst e;rw [hvi,hwi];exact (hm3.own s').of (OB.put_ne _ _ (by simp))
  ·rw [hvj j e,hwj j e];exact (h.wt j hj s').of (hne _ (by simp) (by simp) (by simp [e]))
 ·by_cases e:j=i
  ·subst e;rw [hwi] at hw;exact (OB.put_ne _ _ (by simp)).trans (hm3.non s' hw)
  ·rw [hwj j e] at hw;exact (hne _ (by simp) (by simp) (by simp [e])).trans (h.wn j hj s' hw)
end Go.PV.Ytfkkmdelpddojaa
end
section
open Bool renaming not_false→ZmG,and_self→Zmp,not_true→ZmK,false_eq_true→Zmv
open Int renaming toNat_natCast→Zmw,natCast_nonneg→ZmL
open List renaming getElem?_eq_getElem→ZmW,getElem_mem→ZmE,map_cons→Zmd,map_nil→Zmg,length_cons→Zmi,length_nil→Zml,all_cons→Zmz,all_nil→ZmJ,drop→Zmb,getElem?_cons_zero→ZmC,getElem?_cons_succ→ZmD,set_cons_zero→Zmn,set_cons_succ→Zmy,cons_append→Zm5,nil_append→ZmO,append_nil→ZmF,replicate_succ→ZmP,replicate_zero→ZmZ,flatten_cons→ZmT,flatten_nil→ZmX,getElem?_eq_none→ZmS
open Nat renaming reduceEqDiff→Zl9,reduceLT→Zma,reduceAdd→Zmj,succ_ne_self→Zme,zero_add→Zmh,add_zero→Zmo,le_refl→Zmc,reduceMul→Zm8,reduceLeDiff→Zmu
set_option maxRecDepth 20000
set_option maxHeartbeats 4000000
namespace Go.PV.Ytfkkmdelpddojaa
open Go Go.Proofs
theorem RSat.qc {H0 H:AH} {g:List Pd} {l:List Tk} {n:Nat} {p:Par} {by_:ByteArray→List Int} {C:Ch} (h:RSat H0 H g l n p by_ C):H p.rc=some (.cells 127 [pdsV g,tksV l,.lit (.slice (some ⟨p.rs,0,none⟩) (n+1) (n+1)),mapV p.rd,mapV p.rk] 0):=by obtain ⟨vs,B,h⟩:=h; exact h.ob.at_ _ _ _ h.chart
abbrev pv (p:Par) (vw:Nat→ByteArray→VV) (vd:Sp→VV):Par:={ p with vw:=vw,vd:=vd }
abbrev predV (r10 r4 r9:Nat):VV:=.func (.func 77) [] [ptrV r10 0,ptrV r4 0,ptrV r9 0]
structure InTk (l:List Tk) (r4 r9 r10 rs i:Nat) (A:AF):Prop where
 d:A.d=[]
 t3:A.t 3=tksV l
 t9:A.t 9=ptrV r9 0
 t14:A.t 14=predV r10 r4 r9
 t15:A.t 15=iV i
 t16:A.t 16=ptrV rs (i * 3)
 t95:A.t 95=iV (l.length+1:Nat)
 t96:A.t 96=iV i
theorem inner_ok {H1 H:AH} {g:List Pd} {l:List Tk} {i r4 r9 r10:Nat} {p:Par} {by_:ByteArray→List Int} {C:Ch} {A:AF} {Q:APost} (hg:Zaa Q) (hp:panQ Q) (hG:GOk g l.length) (hby:inBy g by_) (hbl:∀ s,(by_ s).length≤20000) (hi:i≤l.length)
 (k4:H1 r4=some (.cells 30 [pdsV g] 0)) (k9:H1 r9=some (.cells 93 [ptrV p.rc 0] 0)) (k10:H1 r10=some (.cells 148 [mapV p.rb] 0))
 (hA:InTk l r4 r9 r10 p.rs i A) (h17:A.t 17=iV 0) (hR:RSat H1 H g l l.length p by_ C) (hd:Rd g l.length C i 0)
 (hQ:∀ A' H' vw vd,InTk l r4 r9 r10 p.rs i A'→RSat H1 H' g l l.length (pv p vw vd) by_ (setR g l by_ i 20001 0 C)→Q .normal A' H'):ACx ⟨Try.prog,205,none⟩ (.loop b43_3) (XO 6 Q) A H:=by
 obtain ⟨Cf,hCf⟩:∃ Cf,Cf=setR g l by_ i 20001 0 C:=⟨_,rfl⟩
 rw [← hCf] at hQ
 refine YJ hg (fun A H'=>InTk l r4 r9 r10 p.rs i A∧∃ k:Nat,k≤20000∧A.t 17=iV k∧∃ vw vd C',RSat H1 H' g l l.length (pv p vw vd) by_ C'∧Rd g l.length C' i k∧setR g l by_ i (20001-k) k C'=Cf)
  (fun A _=>match A.t 17 with | .lit (.int _ k)=>((20001:Int)-k).toNat | _=>0) ?_ ?_
 ·exact ⟨hA,0,by omega,h17,p.vw,p.vd,C,hR,hd,hCf.symm⟩
 ·clear hCf hA h17 hR hd C;rintro ⟨t,d⟩ H' ⟨hA,k,hk,h17,vw,vd,C,hR,hd,hC⟩;obtain ⟨hdd,h3,h9,h14,h15,h16,h95,h96⟩:=hA;dsimp only at hdd h3 h9 h14 h15 h16 h95 h96 h17;subst hdd;have q9:=hR.keep k9;have qc:=hR.qc;have hR2:=hR;obtain ⟨vs,B,hx⟩:∃ vs B,RSx H1 H' g l l.length p.rc p.rs p.rd p.rk p.rb p.th p.wm vs vw vd p.vb by_ C B:=hR2;have qs:=hx.ob.at_ _ _ _ hx.sets;have hr0:=(hx.st i hi).read hx.ob;have d0:=Za4 vs p.th p.wm hi;have hlen:=Zb8 l.length vs p.th p.wm;clear hx B;have hsl:=hd.gd.len hG hi;delta b43_3 Za Zq Zr Zd Zb Ze Zn Zk Zi Zg Zo Zh Zc Zm Zl Zp;by_cases hlt:k<(C.sets i).st.length
  ·have hkl:(k:Int)<((C.sets i).st.length:Int):=by omega
   have hxg:(C.sets i).st[k]?=some (C.sets i).st[k]:=ZmW hlt;obtain ⟨a1,a2,a3⟩:=hd.gd.ok i hi _ (ZmE hlt);have hso:=ZgD hG (⟨a1,a2,a3⟩:okS g l.length _);have hd2:=hd.step hby hi hxg
   have hld:ldV 3 true ((encC stE (C.sets i).st).drop ((k:Int).toNat * 3))=some (stV (C.sets i).st[k]):=by
    rw [Zmw,WZ (k:=3) (fun _=>rfl) hlt]; rfl
   rw [show 20001-k=(20000-k)+1 by omega] at hC;unfold setR at hC;rw [hxg] at hC;dsimp only at hC;generalize (C.sets i).st[k]=x at *
   have hil:=WK hG a1;have hgl:=hG.len;have hnn:=hG.n;have hit:=fun (H3:AH) (hs:SubH H' H3)=>ZkV (x:=x) (by omega) (.inr ⟨rfl,hs _ _ qc⟩) a1 (by rw [← Xa a1]; exact a2) (by rw [← Xa a1]; omega)
   have hfin:∀ C',Rd g l.length C' i (k+1)→setR g l by_ i (20000-k) (k+1) C'=Cf→setR g l by_ i (20001-(k+1)) (k+1) C'=Cf:=fun C' _ h=>by rw [show 20001-(k+1)=20000-k by omega]; exact h
   cases he:Xf g x with
   | none =>
     have hif:itemF g x=(zIt,false):=by unfold itemF; unfold Xf at he; rw [he]
     have hsf:stepR g l by_ i C x=complF g x i C:=by unfold stepR; rw [he]
     rw [hsf] at hC hd2;simp only [hif] at hit;obtain ⟨z1,z2,z3,hz⟩:∃ a b c,zIt=⟨a,b,c⟩:=⟨_,_,_,rfl⟩
     rw [hz] at hit;have hco:=fun H'' K'=>ZiH (H:=H'') (K:=K') hG hd.gd hi (⟨a1,a2,a3⟩:okS g l.length x) (ZkY hd a3) (Zi6 hG hd a3) (by have:=done_len hG hd x.start i hi; omega) (H0:=H1) (l:=l) (p:=pv p vw vd) (by_:=by_)
     replace hR:=Hold.mk hR;replace hQ:=Hold.mk hQ;replace hC:=Hold.mk hC;replace hd2:=Hold.mk hd2;clear hd hif hsf hz he
     (repeat' (first | (refine (hit _ ?_).use ?_) | (refine hco _ _ ((hR.out.skip (by assumption) _).skip (by assumption) _) (fun H3 v hR3=>?_)) | (simp only [↓Yt,↓Ya,↓Ye,↓ZZ,↓Yb,↓Ys,↓ZY,↓ZF,↓ZD,↓Jg,↓ZG,↓ZH,↓YX,↓ZJ,↓YY,↓ZI,↓ZP,↓ZU,↓Zv,↓ZR,↓ZE,↓ZS,↓YR,↓Yh,↓Yy,↓s_un,↓Xn,↓ZA,↓ZN,↓Xj,↓ZX,↓ZK,↓ZL,↓Xk,↓Yj,↓Yl,↓Yz,vcNil,Yw,ptrV,intV,boolV,Zmd,Zmg,Zmi,Zml,ite_true,ite_false,Zl9,Zma,Zmj,ne_eq,not_false_eq_true,true_and,Zme,decide_true,ZmG,AH.get,AH.set_set,setAt,Zmz,ZmJ,Zmp,eq_self,Zmh,Zmo,Zmb,ZmC,ZmD,Yq,Wt,Wc,WM,YB,Zmn,Zmy,↓Xo,YP,Zmc,Yn,YK,Yo,Yp,YG,Wf,Wg,WI,YT,Zau,Wo,Zbz,WU,Wr,Xp,ZgL,en_79, *]) | (refine Zw fun zr zh=>?_; have zg:=zh; (try simp only [AH.set_none] at zg); (try have zn_q9:=AH.ne_of q9 zh); (try have zn_q9:=AH.ne_of q9 zg.2); (try have zn_q9:=AH.ne_of q9 zg.2.2); (try have zn_q9:=AH.ne_of q9 zg.2.2.2); (try have zn_q9:=AH.ne_of q9 zg.2.2.2.2); (try have zn_qc:=AH.ne_of qc zh); (try have zn_qc:=AH.ne_of qc zg.2); (try have zn_qc:=AH.ne_of qc zg.2.2); (try have zn_qc:=AH.ne_of qc zg.2.2.2); (try have zn_qc:=AH.ne_of qc zg.2.2.2.2); (try have zn_qs:=AH.ne_of qs zh); (try have zn_qs:=AH.ne_of qs zg.2); (try have zn_qs:=AH.ne_of qs zg.2.2); (try have zn_qs:=AH.ne_of qs zg.2.2.2); (try have zn_qs:=AH.ne_of qs zg.2.2.2.2)) | (exact SubH.refl _) | (refine SubH.of_set ?_ ?_) | (refine hr0.len (by simp [XL]) ?_) | (refine hr0.index XL (by omega) (by omega) (fun a ha=>?_)) | (refine ha.load Wo hld ?_) | (with_reducible refine And.intro ?_ ?_)))
     ·exact ⟨rfl,(by simp only [Zv,Zl9,if_false, *]<;>rfl),(by simp only [Zv,Zl9,if_false, *]<;>rfl),(by simp only [Zv,Zl9,if_false, *]<;>rfl),(by simp only [Zv,Zl9,if_false, *]<;>rfl),(by simp only [Zv,Zl9,if_false, *]<;>rfl),(by simp only [Zv,Zl9,if_false, *]<;>rfl),(by simp only [Zv,Zl9,if_false, *]<;>rfl)⟩
     all_goals rw [ZQ (n:=(k:Int)+1) (by omega) (by omega)]
     ·exact ⟨k+1,by omega,rfl,vw,_,_,hR3,hd2.out,hfin _ hd2.out hC.out⟩
     ·omega
   | some it =>
     have hif:itemF g x=(it,true):=by unfold itemF; unfold Xf at he; rw [he]
     have hilt:x.dot<(pdAt g x.prod).items.length:=by unfold Xf at he; exact (List.getElem?_eq_some_iff.1 he).1
     have him:it∈(pdAt g x.prod).items:=by unfold Xf at he; exact List.mem_of_getElem? he
     have htx:=(hG.txt _ (ZmE a1)).2 it (by rw [← Xa a1]; exact him);simp only [hif] at hit
     have hsf:stepR g l by_ i C x=if it.kind=3 then predF g by_ i it.text it.prio (C.wait i it.text x) else match l[i]? with
      | some t=>if takeF it t=true then C.add (i+1) ⟨x.prod,x.dot+1,x.start⟩ else C
      | none=>C:=by unfold stepR; rw [he]<;>rfl
     by_cases h3k:it.kind=3
     ·rw [if_pos h3k] at hsf;rw [hsf] at hC hd2;have hwl:=Zi6 (s:=it.text) hG hd hi;have hbt:=hby it.text;have hbn:=hbl it.text;have hgw:=(hd.wait hi hxg he h3k).gd;clear hsf hif he him;obtain ⟨it1,it2,it3⟩:=it;dsimp only at h3k htx hwl hC hd2 hbt hbn hgw;subst h3k;have hz:it2.size≤maxLen:=by unfold maxLen; omega
      have hwo:=fun Hb Hc (hRb:RSat Hb Hc g l l.length (pv p vw vd) by_ C)=>waits_ok (x:=x) hi hz (by omega) hRb
      have hpo:=fun Hb Hc vw' (hkb:SubH H1 Hb) (hRb:RSat Hb Hc g l l.length (pv p vw' vd) by_ (C.wait i it2 x)) K'=>ZfC (p:=pv p vw' vd) (K:=K') (at_:=i) (sym:=it2) (least:=it3) hG hgw hi hbt hbn hz (hkb _ _ k10) (hkb _ _ k4) (hkb _ _ k9) hRb
      replace hR:=Hold.mk hR;replace hQ:=Hold.mk hQ;replace hC:=Hold.mk hC;replace hd2:=Hold.mk hd2;clear hd
      (repeat' (first | (refine (hit _ ?_).use ?_) | (simp only [↓Yt,↓Ya,↓Ye,↓ZZ,↓Yb,↓Yv,↓Ys,↓XF,↓ZY,↓ZF,↓ZD,↓ZG,↓ZH,↓YX,↓ZJ,↓YY,↓ZI,↓ZP,↓ZU,↓Zv,↓ZR,↓ZE,↓ZS,↓YR,↓Yh,↓Yy,↓s_un,↓Xn,↓ZA,↓ZN,↓Xj,↓ZX,↓ZK,↓ZL,↓Xk,↓Yj,↓Yl,↓Yr,vcNil,Yw,ptrV,intV,boolV,Zmd,Zmg,Zmi,Zml,ite_true,ite_false,Zl9,Zma,Zmj,ne_eq,not_false_eq_true,true_and,Zme,decide_true,ZmK,AH.get,AH.set_set,setAt,Zmz,ZmJ,Zmp,eq_self,Zmh,Zmo,Zmb,ZmC,ZmD,Yq,Wt,Wc,WM,YB,Zmn,Zmy,↓Xo,YP,Zmc,Yn,YK,Yo,Yp,YG,Wf,Wg,WI,Xd,Yd,YT,Zau,Wo,Zbz,WU,Wr,Xp,ZgL, *]) | (refine Zw fun zr zh=>?_; have zg:=zh; (try simp only [AH.set_none] at zg); (try have zn_q9:=AH.ne_of q9 zh); (try have zn_q9:=AH.ne_of q9 zg.2); (try have zn_q9:=AH.ne_of q9 zg.2.2); (try have zn_q9:=AH.ne_of q9 zg.2.2.2); (try have zn_q9:=AH.ne_of q9 zg.2.2.2.2); (try have zn_qc:=AH.ne_of qc zh); (try have zn_qc:=AH.ne_of qc zg.2); (try have zn_qc:=AH.ne_of qc zg.2.2); (try have zn_qc:=AH.ne_of qc zg.2.2.2); (try have zn_qc:=AH.ne_of qc zg.2.2.2.2); (try have zn_qs:=AH.ne_of qs zh); (try have zn_qs:=AH.ne_of qs zg.2); (try have zn_qs:=AH.ne_of qs zg.2.2); (try have zn_qs:=AH.ne_of qs zg.2.2.2); (try have zn_qs:=AH.ne_of qs zg.2.2.2.2)) | (exact SubH.refl _) | (refine SubH.of_set ?_ ?_) | (refine hr0.len (by simp [XL]) ?_) | (refine hr0.index XL (by omega) (by omega) (fun a ha=>?_)) | (refine ha.load Wo hld ?_)))
      rename_i z n1 n2 n3 n4 n5;have hRb:=(hR.out.base n1 (.cells 129 (stE x) 0)).base zh (.cells 64 [iV 3,sV it2,iV it3] 0)
      have hHb:SubH H1 ((H1.set z (.cells 129 (stE x) 0)).set zr (.cells 64 [iV 3,sV it2,iV it3] 0)):=by
       obtain ⟨vs,B,h⟩:=hR.out;exact (SubH.new (h.ob.sub.none n1)).of_set (h.ob.sub.none zg.2)
      have f18:((H1.set z (.cells 129 (stE x) 0)).set zr (.cells 64 [iV 3,sV it2,iV it3] 0)) z=some (.cells 129 (stE x) 0):=by rw [AH.set_ne _ _ zg.1.2,AH.set_same]
      have f19:((H1.set z (.cells 129 (stE x) 0)).set zr (.cells 64 [iV 3,sV it2,iV it3] 0)) zr=some (.cells 64 [iV 3,sV it2,iV it3] 0):=AH.set_same _ _ _;generalize (H1.set z (.cells 129 (stE x) 0)).set zr (.cells 64 [iV 3,sV it2,iV it3] 0)=Hx at *
      generalize (H'.set z _).set zr _=Hc at *
      clear q9 qc qs hr0 d0 n1 n2 n3 n4 n5 zh zg zn_q9 zn_qc zn_qs hld ha hit hlen;obtain ⟨Hb,vs,sb1,sb2,gs,_,hlook,hpush⟩:=hwo _ _ hRb;dsimp only at gs hlook hpush;have g18:=sb1 _ _ f18;have g19:=sb1 _ _ f19;have d2:=ZfA vs p.th p.wm hi;have hlen:=Zb8 l.length vs p.th p.wm
      have hpush2:∀ K:VE→AH→Prop,(∀ v' H',v'.cells=[v']∧VV.one v'=true→SubH Hb H'→(∀ K3:VE→AH→Prop,(∀ H3,RSat Hx H3 g l l.length ((pv p vw vd).setW i it2 v') by_ (C.wait i it2 x)→H3 zr=some (.cells 64 [iV 3,sV it2,iV it3] 0)→K3 (.ret Zx) H3)→XY Try.prog 120 (mapV (p.wm i)) (sV it2) v' H' K3)→K (.ret v') H')→Jf Try.prog 118 (slO ((C.sets i).wt it2) (vw i it2)) (.slice true 1 (stE x)) Hc K :=
       fun K h=>hpush K fun v' H' hv hs hup=>h v' H' hv hs fun K3 h3=>hup K3 fun H3 hr=>h3 H3 hr (hr.keep f19)
      clear hpush hwo hRb f18;refine Yf mixed hp Hb sb2 ?_
      (repeat' (first | (refine hlook _ ?_) | (refine hpush2 _ (fun v' H2 hv hsub2 hup=>?_)) | (refine hup _ (fun H3 hR3 q3=>?_)) | (refine hpo _ _ _ hHb hR3 _ (fun H4 hR4=>?_)) | (simp only [↓Ya,↓ZY,↓ZF,↓ZD,↓Jg,↓ZG,↓ZH,↓YX,↓ZJ,↓YY,↓ZI,↓ZP,↓Zv,↓ZR,↓ZE,↓ZS,↓Yh,↓Yy,↓YC,↓ZA,↓Wn,↓WO,↓ZX,↓ZK,↓Zcy,↓WX,↓Yz,vcNil,ptrV,Zmd,Zmg,Zmi,Zml,Zm5,ZmO,ZmF,ite_true,ite_false,Zl9,Zma,Zmj,Zm8,Zmu,ne_eq,not_false_eq_true,true_and,Zme,↓Xc,↓Xg,↓Xm,fillV,setAt,eq_self,Zmh,Zmb,and_self,Yq,Wt,YB,Zmn,Zmy,Zmc,Yn,YK,Yo,Yp,YG,↓Wy,↓XM,ZB,ZmP,ZmZ,ZmT,ZmX,Zd7,XQ,XZ,Yd,Wb,Wo,ZkD,Wr,XL,en_77, *]) | (with_reducible refine And.intro ?_ ?_)))
      ·exact ⟨rfl,(by simp only [Zv,Zl9,if_false, *]<;>rfl),(by simp only [Zv,Zl9,if_false, *]<;>rfl),(by simp only [Zv,Zl9,if_false, *]<;>rfl),(by simp only [Zv,Zl9,if_false, *]<;>rfl),(by simp only [Zv,Zl9,if_false, *]<;>rfl),(by simp only [Zv,Zl9,if_false, *]<;>rfl),(by simp only [Zv,Zl9,if_false, *]<;>rfl)⟩
      all_goals rw [ZQ (n:=(k:Int)+1) (by omega) (by omega)]
      ·exact ⟨k+1,by omega,rfl,_,_,_,hR4.weak hHb,hd2.out,hfin _ hd2.out hC.out⟩
      ·omega
     ·rw [if_neg h3k] at hsf;have hwr:IntKind.wrap .i64 ((x.dot:Int)+1)=((x.dot+1:Nat):Int):=by rw [ZQ (by omega) (by omega)]; rfl
      have hwi:IntKind.wrap .i64 ((i:Int)+1)=((i+1:Nat):Int):=by rw [ZQ (by omega) (by omega)]; rfl
      have hlo:∀ hlt:i<l.length,l[i]?=some l[i]:=fun hlt=>ZmW hlt
      by_cases hil2:i<l.length
      ·have hii:(i:Int)<(l.length:Int):=by omega
       have hti:=ZhK hil2;rw [hlo hil2] at hsf;dsimp only at hsf;have htk:=Zi1 it l[i];have hadd:=fun H'' K'=>Zkv (H0:=H1) (H:=H'') (K:=K') (C:=C) (g:=g) (x:=⟨x.prod,x.dot+1,x.start⟩) (l:=l) (i:=i+1) (n:=l.length) (p:=pv p vw vd) (by_:=by_) (by omega) (by omega) (ZgD hG (g:=g) (n:=l.length) ⟨a1,hilt,a3⟩) (by have:=hd.gd.len hG (i:=i+1) (by omega); omega)
       rw [hsf] at hC hd2;clear hsf hlo;generalize l[i]=tk at *
       obtain ⟨tk1,tk2⟩:=tk;obtain ⟨it1,it2,it3⟩:=it;replace hR:=Hold.mk hR;replace hQ:=Hold.mk hQ;replace hC:=Hold.mk hC;replace hd2:=Hold.mk hd2;replace him:=Hold.mk him;replace he:=Hold.mk he;clear hd hif;dsimp only at h3k htx;by_cases hta:takeF ⟨it1,it2,it3⟩ ⟨tk1,tk2⟩=true
       ·rw [if_pos hta] at hC hd2;rw [hta] at htk
        (repeat' (first | (refine (hit _ ?_).use ?_) | (refine Yf mixed hp _ (SubH.refl _) ?_) | (refine hadd _ _ ((hR.out.skip (by assumption) _).skip (by assumption) _) (fun H3 hR3=>?_)) | (simp only [↓Yt,↓Ya,↓Ye,↓ZZ,↓Yb,↓Yv,↓Ys,↓XF,↓ZY,↓ZF,↓Yk,↓Yx,↓ZD,↓Jg,↓ZG,↓ZH,↓YX,↓ZJ,↓YY,↓ZI,↓ZP,↓ZU,↓Zv,↓ZR,↓ZE,↓ZV,↓Ym,↓YE,↓ZS,↓YR,↓Yh,↓Yy,↓s_un,↓Xn,↓Wp,↓ZA,↓ZN,↓Xj,↓ZX,↓ZK,↓ZL,↓Xk,↓Yj,↓Yl,↓Yr,↓Yz,vcNil,Yw,ptrV,intV,boolV,Zmd,Zmg,Zmi,Zml,ite_true,ite_false,Zl9,Zma,Zmj,Zmu,ne_eq,not_false_eq_true,true_and,Zme,decide_true,decide_false,ZmK,reduceCtorEq,ZmL,Zmw,↓Xc,↓Xg,↓WF,AH.get,AH.set_set,ZT,fillV,setAt,Zmz,ZmJ,Zmp,eq_self,Zmh,Zmo,Zmb,and_self,ZmC,ZmD,Yq,JG,Wt,XV,Wc,WM,YB,Zmn,Zmy,↓Xo,YP,Zmc,WC,Yn,YK,WE,XG,XA,Yo,WD,Yp,YG,Wf,Wg,↓Wy,↓Zbq,ZT,WI,Xd,Jr,Zan,Zcd,Yd,YT,Zau,Wo,JD,Zgq,Zbz,ZhE,WU,Wr,Xp,Zam,ZgL,Zjy,en_78, *]) | (refine Zw fun zr zh=>?_; have zg:=zh; (try simp only [AH.set_none] at zg); (try have zn_q9:=AH.ne_of q9 zh); (try have zn_q9:=AH.ne_of q9 zg.2); (try have zn_q9:=AH.ne_of q9 zg.2.2); (try have zn_q9:=AH.ne_of q9 zg.2.2.2); (try have zn_q9:=AH.ne_of q9 zg.2.2.2.2); (try have zn_qc:=AH.ne_of qc zh); (try have zn_qc:=AH.ne_of qc zg.2); (try have zn_qc:=AH.ne_of qc zg.2.2); (try have zn_qc:=AH.ne_of qc zg.2.2.2); (try have zn_qc:=AH.ne_of qc zg.2.2.2.2); (try have zn_qs:=AH.ne_of qs zh); (try have zn_qs:=AH.ne_of qs zg.2); (try have zn_qs:=AH.ne_of qs zg.2.2); (try have zn_qs:=AH.ne_of qs zg.2.2.2); (try have zn_qs:=AH.ne_of qs zg.2.2.2.2)) | (exact SubH.refl _) | (refine SubH.of_set ?_ ?_) | (refine PureF.use (htk) ?_) | (refine hr0.len (by simp [XL]) ?_) | (refine hr0.index XL (by omega) (by omega) (fun a ha=>?_)) | (refine ha.load Wo hld ?_) | (with_reducible refine And.intro ?_ ?_)))
        ·exact ⟨rfl,(by simp only [Zv,Zl9,if_false, *]<;>rfl),(by simp only [Zv,Zl9,if_false, *]<;>rfl),(by simp only [Zv,Zl9,if_false, *]<;>rfl),(by simp only [Zv,Zl9,if_false, *]<;>rfl),(by simp only [Zv,Zl9,if_false, *]<;>rfl),(by simp only [Zv,Zl9,if_false, *]<;>rfl),(by simp only [Zv,Zl9,if_false, *]<;>rfl)⟩
        all_goals rw [ZQ (n:=(k:Int)+1) (by omega) (by omega)]
        ·exact ⟨k+1,by omega,rfl,vw,_,_,hR3,hd2.out,hfin _ hd2.out hC.out⟩
        ·omega
       ·rw [if_neg hta] at hC hd2;rw [Bool.not_eq_true] at hta;rw [hta] at htk;clear hadd
        (repeat' (first | (refine (hit _ ?_).use ?_) | (refine Yf mixed hp _ (SubH.refl _) ?_) | (simp only [↓Yt,↓Ya,↓Ye,↓ZZ,↓Yb,↓Yv,↓Ys,↓XF,↓ZY,↓ZF,↓Yk,↓Yx,↓ZD,↓Jg,↓ZG,↓ZH,↓YX,↓ZJ,↓YY,↓ZI,↓ZP,↓ZU,↓Zv,↓ZR,↓ZE,↓ZV,↓Ym,↓YE,↓ZS,↓YR,↓Yh,↓Yy,↓s_un,↓Xn,↓ZA,↓ZN,↓Xj,↓ZX,↓ZK,↓ZL,↓Xk,↓Yj,↓Yl,↓Yr,↓Yz,vcNil,Yw,ptrV,intV,boolV,Zmd,Zmg,Zmi,Zml,ite_true,ite_false,Zl9,Zma,Zmj,ne_eq,not_false_eq_true,true_and,Zme,decide_true,decide_false,ZmK,reduceCtorEq,ZmL,Zmw,↓Xc,↓Xg,↓WF,AH.get,AH.set_set,setAt,Zmz,ZmJ,Zmp,eq_self,Zmh,Zmo,Zmb,and_self,ZmC,ZmD,Yq,JG,Wt,Wc,WM,YB,Zmn,Zmy,↓Xo,YP,Zmc,WC,Yn,YK,WE,XG,XA,Yo,WD,Yp,YG,Wf,Wg,↓Wy,↓Zbq,WI,Xd,Yd,YT,Zau,Wo,JD,Zgq,Zbz,WU,Wr,Xp,Zam,ZgL,Zjy, *]) | (refine Zw fun zr zh=>?_; have zg:=zh; (try simp only [AH.set_none] at zg); (try have zn_q9:=AH.ne_of q9 zh); (try have zn_q9:=AH.ne_of q9 zg.2); (try have zn_q9:=AH.ne_of q9 zg.2.2); (try have zn_q9:=AH.ne_of q9 zg.2.2.2); (try have zn_q9:=AH.ne_of q9 zg.2.2.2.2); (try have zn_qc:=AH.ne_of qc zh); (try have zn_qc:=AH.ne_of qc zg.2); (try have zn_qc:=AH.ne_of qc zg.2.2); (try have zn_qc:=AH.ne_of qc zg.2.2.2); (try have zn_qc:=AH.ne_of qc zg.2.2.2.2); (try have zn_qs:=AH.ne_of qs zh); (try have zn_qs:=AH.ne_of qs zg.2); (try have zn_qs:=AH.ne_of qs zg.2.2); (try have zn_qs:=AH.ne_of qs zg.2.2.2); (try have zn_qs:=AH.ne_of qs zg.2.2.2.2)) | (exact SubH.refl _) | (refine SubH.of_set ?_ ?_) | (refine PureF.use (htk) ?_) | (refine hr0.len (by simp [XL]) ?_) | (refine hr0.index XL (by omega) (by omega) (fun a ha=>?_)) | (refine ha.load Wo hld ?_) | (with_reducible refine And.intro ?_ ?_)))
        ·exact ⟨rfl,(by simp only [Zv,Zl9,if_false, *]<;>rfl),(by simp only [Zv,Zl9,if_false, *]<;>rfl),(by simp only [Zv,Zl9,if_false, *]<;>rfl),(by simp only [Zv,Zl9,if_false, *]<;>rfl),(by simp only [Zv,Zl9,if_false, *]<;>rfl),(by simp only [Zv,Zl9,if_false, *]<;>rfl),(by simp only [Zv,Zl9,if_false, *]<;>rfl)⟩
        all_goals rw [ZQ (n:=(k:Int)+1) (by omega) (by omega)]
        ·exact ⟨k+1,by omega,rfl,vw,_,_,(hR.out.skip (by assumption) _).skip (by assumption) _,hd2.out,hfin _ hd2.out hC.out⟩
        ·omega
      ·have hii:¬ (i:Int)<(l.length:Int):=by omega
       rw [ZmS (by omega)] at hsf;dsimp only at hsf;rw [hsf] at hC hd2;clear hsf hlo;obtain ⟨it1,it2,it3⟩:=it;replace hR:=Hold.mk hR;replace hQ:=Hold.mk hQ;replace hC:=Hold.mk hC;replace hd2:=Hold.mk hd2;replace him:=Hold.mk him;replace he:=Hold.mk he;clear hd hif;dsimp only at h3k htx
       (repeat' (first | (refine (hit _ ?_).use ?_) | (refine Yf mixed hp _ (SubH.refl _) ?_) | (simp only [↓Yt,↓Ya,↓Ye,↓ZZ,↓Yb,↓Yv,↓Ys,↓XF,↓ZY,↓ZF,↓Yk,↓YZ,↓ZD,↓Jg,↓ZG,↓ZH,↓YX,↓ZJ,↓YY,↓ZI,↓ZP,↓ZU,↓Zv,↓ZR,↓ZE,↓ZV,↓Ym,↓YE,↓ZS,↓YR,↓Yh,↓Yy,↓s_un,↓Xn,↓ZA,↓ZN,↓Xj,↓ZX,↓ZK,↓ZL,↓Xk,↓Yj,↓Yl,↓Yr,↓Yz,vcNil,Yw,ptrV,intV,boolV,Zmd,Zmg,Zmi,Zml,ite_true,ite_false,Zl9,Zma,Zmj,ne_eq,not_false_eq_true,true_and,Zmv,Zme,decide_true,decide_false,ZmK,reduceCtorEq,Yc,Zx,↓Xc,↓Xg,↓WF,AH.get,AH.set_set,setAt,Zmz,ZmJ,Zmp,eq_self,Zmh,Zmo,Zmb,ZmC,ZmD,Yq,Wt,Wc,WM,YB,Zmn,Zmy,↓Xo,YP,Zmc,Yn,YK,XA,Yo,Yp,YG,Wf,Wg,↓Wy,↓Zbr,undef,WI,Xd,Yd,YT,Zau,Wo,Zbz,WU,Wr,Xp,Zam,ZgL,Zjy, *]) | (refine Zw fun zr zh=>?_; have zg:=zh; (try simp only [AH.set_none] at zg); (try have zn_q9:=AH.ne_of q9 zh); (try have zn_q9:=AH.ne_of q9 zg.2); (try have zn_q9:=AH.ne_of q9 zg.2.2); (try have zn_q9:=AH.ne_of q9 zg.2.2.2); (try have zn_q9:=AH.ne_of q9 zg.2.2.2.2); (try have zn_qc:=AH.ne_of qc zh); (try have zn_qc:=AH.ne_of qc zg.2); (try have zn_qc:=AH.ne_of qc zg.2.2); (try have zn_qc:=AH.ne_of qc zg.2.2.2); (try have zn_qc:=AH.ne_of qc zg.2.2.2.2); (try have zn_qs:=AH.ne_of qs zh); (try have zn_qs:=AH.ne_of qs zg.2); (try have zn_qs:=AH.ne_of qs zg.2.2); (try have zn_qs:=AH.ne_of qs zg.2.2.2); (try have zn_qs:=AH.ne_of qs zg.2.2.2.2)) | (exact SubH.refl _) | (refine SubH.of_set ?_ ?_) | (refine hr0.len (by simp [XL]) ?_) | (refine hr0.index XL (by omega) (by omega) (fun a ha=>?_)) | (refine ha.load Wo hld ?_) | (with_reducible refine And.intro ?_ ?_)))
       ·exact ⟨rfl,(by simp only [Zv,Zl9,if_false, *]<;>rfl),(by simp only [Zv,Zl9,if_false, *]<;>rfl),(by simp only [Zv,Zl9,if_false, *]<;>rfl),(by simp only [Zv,Zl9,if_false, *]<;>rfl),(by simp only [Zv,Zl9,if_false, *]<;>rfl),(by simp only [Zv,Zl9,if_false, *]<;>rfl),(by simp only [Zv,Zl9,if_false, *]<;>rfl)⟩
       all_goals rw [ZQ (n:=(k:Int)+1) (by omega) (by omega)]
       ·exact ⟨k+1,by omega,rfl,vw,_,_,(hR.out.skip (by assumption) _).skip (by assumption) _,hd2.out,hfin _ hd2.out hC.out⟩
       ·omega
  ·have hkl:¬ (k:Int)<((C.sets i).st.length:Int):=by omega
   have hCC:C=Cf:=by
    rw [show 20001-k=(20000-k)+1 by omega] at hC;unfold setR at hC;rw [ZmS (by omega)] at hC;exact hC
   subst hCC;replace hR:=Hold.mk hR;replace hQ:=Hold.mk hQ
   (repeat' (first | (simp only [↓Zt,Zu,vcNil,ptrV,intV,Zl9,Zma,WI,Zau, *]) | (refine hr0.len (by simp [XL]) ?_)))
   exact hQ.out _ _ vw vd ⟨rfl,(by simp only [Zv,Zl9,if_false, *]<;>rfl),(by simp only [Zv,Zl9,if_false, *]<;>rfl),(by simp only [Zv,Zl9,if_false, *]<;>rfl),(by simp only [Zv,Zl9,if_false, *]<;>rfl),(by simp only [Zv,Zl9,if_false, *]<;>rfl),(by simp only [Zv,Zl9,if_false, *]<;>rfl),(by simp only [Zv,Zl9,if_false, *]<;>rfl)⟩ hR.out
end Go.PV.Ytfkkmdelpddojaa
end
section
open List renaming map_cons→Zmd,map_nil→Zmg,cons_append→Zm5,nil_append→ZmO,drop→Zmb
open Nat renaming zero_le→ZmU,reduceEqDiff→Zl9,reduceLT→Zma,succ_ne_self→Zme,zero_add→Zmh,le_refl→Zmc
set_option maxRecDepth 20000
set_option maxHeartbeats 4000000
namespace Go.PV.Ytfkkmdelpddojaa
open Go Go.Proofs
theorem readC_ok {H0 H1 H:AH} {g:List Pd} {l:List Tk} {sym:ByteArray} {least:Int} {r4 r9 r10:Nat} {p:Par} {A:AF} {K:VE→AH→Prop} (hG:GOk g l.length) (hsz:sym.size≤maxLen) (hA:RdA H0 H1 g l sym least r4 r9 r10 p.rc p.rb A) (hR:RSat H1 H g l l.length p (byF g) C0)
 (hD:∀ A' H' vw vd i,i≤l.length+1→A'.d=[]→A'.t 9=ptrV r9 0→RSat H1 H' g l l.length (pv p vw vd) (byF g) (readF g sym least l)→Rd g l.length (readF g sym least l) i 0→ACx ⟨Try.prog,205,none⟩ Zl0 (Jd Try.prog [.tmp 8] K) A' H'):ACx ⟨Try.prog,205,none⟩ Zl1 (Jd Try.prog [.tmp 8] K) A H:=by
 obtain ⟨t,d⟩:=A;obtain ⟨hs,k4,k9,k10,hd,h1,h2,h3,h4,h9,h10⟩:=hA;dsimp only at hd h1 h2 h3 h4 h9 h10;subst hd;delta Zl1 Zq Zr Zc Za Zb Zd Ze;have hgl:=hG.len;have hnn:=hG.n;have hbl:∀ s,(byF g s).length≤20000:=fun s=>by have:=byF_len g s; omega
 have hby:=Zdr g;have hfr:=ZdG (n:=l.length) hby sym least;unfold readF at hD;generalize byF g=by_ at *
 have hpr:=fun K' (hk:∀ H',RSat H1 H' g l l.length p by_ (predF g by_ 0 sym least C0)→H' r9=some (.cells 93 [ptrV p.rc 0] 0)→H' p.rc=some (.cells 127 [pdsV g,tksV l,.lit (.slice (some ⟨p.rs,0,none⟩) (l.length+1) (l.length+1)),mapV p.rd,mapV p.rk] 0)→K' (.ret (.tuple [])) H')=>ZfC (K:=K') (at_:=0) (sym:=sym) (least:=least) hG (C0_rd g l.length).gd (ZmU _) (hby sym) (hbl sym) hsz k10 k4 k9 hR (fun H' h=>hk H' h (h.keep k9) h.qc)
 have q9:=hR.keep k9;generalize predF g by_ 0 sym least C0=C at *
 obtain ⟨Cf,hCf⟩:∃ Cf,Cf=readR g l by_ (l.length+1) 0 C:=⟨_,rfl⟩
 rw [← hCf] at hD;replace hR:=Hold.mk hR;replace hCf:=Hold.mk hCf;refine YL rfl (fun _ _ _ h=>h) ?_
 (repeat' (first | (refine hpr _ (fun H2 hR2 w9 wc=>?_)) | (simp only [↓Yt,↓Ya,↓Ye,↓JE,↓Ys,↓Zcv,↓ZY,↓ZF,↓ZD,↓ZG,↓ZH,↓ZJ,↓ZI,↓ZP,↓Zv,↓ZR,↓ZE,↓ZS,↓Yh,↓Wm,↓ZA,↓ZX,↓ZK,↓Zcy,↓Xk,vcNil,ptrV,intV,Zmd,Zmg,Zm5,ZmO,ite_true,ite_false,Zl9,Zma,ne_eq,not_false_eq_true,true_and,Zme,reduceCtorEq,eq_self,Zmh,Zmb,Yq,Yn,YK,Zih,Yo,Yp,YG,Jq,YT,ZaN,ZaO,en_77, *])))
 clear w9 wc
 refine YJ (fun _ _ _ h=>h) (fun A H'=>A.d=[]∧A.t 3=tksV l∧A.t 9=ptrV r9 0∧A.t 14=predV r10 r4 r9∧A.t 95=iV (l.length+1:Nat)∧∃ i:Nat,i≤l.length+1∧A.t 96=iV i∧∃ vw vd C',RSat H1 H' g l l.length (pv p vw vd) by_ C'∧Rd g l.length C' i 0∧readR g l by_ (l.length+1-i) i C'=Cf)
  (fun A _=>match A.t 96 with | .lit (.int _ k)=>((l.length+1:Int)-k).toNat | _=>0) ?_ ?_
 ·exact ⟨rfl,(by simp only [Zv,Zl9,if_false, *]<;>rfl),(by simp only [Zv,Zl9,if_false, *]<;>rfl),(by simp only [Zv,Zl9,if_true,if_false, *]<;>rfl),(by simp only [Zv,Zl9,if_true,if_false, *]<;>rfl),0,by omega,(by simp only [Zv,Zl9,if_true,if_false, *]<;>rfl),p.vw,p.vd,C,hR2,hfr,hCf.out.symm⟩
 ·clear hR2 hR hfr q9 hpr hCf h1 h2 h3 h4 h9 h10 C;rintro ⟨t,d⟩ H' ⟨hdd,h3,h9,h14,h95,i,hi,h96,vw,vd,C,hR,hd,hC⟩;dsimp only at hdd h3 h9 h14 h95 h96;subst hdd;have q9:=hR.keep k9;have qc:=hR.qc;delta b43_4 Zn Zr Za Zc Zb Zq Zd Zk Ze Zm Zf;by_cases hlt:i<l.length+1
  ·have hil:(i:Int)<((l.length+1:Nat):Int):=by omega
   have hin:i≤l.length:=by omega
   have hR2:=hR;obtain ⟨vs,B,hx⟩:∃ vs B,RSx H1 H' g l l.length p.rc p.rs p.rd p.rk p.rb p.th p.wm vs vw vd p.vb by_ C B:=hR2;have qs:=hx.ob.at_ _ _ _ hx.sets;have hr0:=(hx.st i hin).read hx.ob;have d0:=Za4 vs p.th p.wm hin;have hlen:=Zb8 l.length vs p.th p.wm;clear hx B;rw [show l.length+1-i=(l.length-i)+1 by omega] at hC;unfold readR at hC;by_cases he:(C.sets i).st.length=0
   ·rw [if_pos (List.length_eq_zero_iff.1 he)] at hC;subst hC;replace hR:=Hold.mk hR;replace hD:=Hold.mk hD;replace hd:=Hold.mk hd;have hei:((C.sets i).st.length:Int)=0:=by omega
    clear he
    (repeat' (first | (simp only [↓Zt,Zu,vcNil,ptrV,intV,Zl9,Zma,Zmb,Jq,WI,YT,ZaN,Zau,ZaO, *]) | (refine hr0.len (by simp [XL]) ?_)))
    exact hD.out _ _ vw vd i hi rfl (by simp only [Zv,Zl9,if_false, *]<;>rfl) hR.out hd.out
   ·rw [if_neg (fun e=>he (by rw [e]; rfl))] at hC;have hei:¬ ((C.sets i).st.length:Int)=0:=by omega
    have hd2:=ZfE hG hby hin 20001 0 C hd (by omega);clear he;replace hR:=Hold.mk hR;replace hD:=Hold.mk hD;replace hd:=Hold.mk hd;replace hC:=Hold.mk hC;replace hd2:=Hold.mk hd2
    (repeat' (first | (simp only [↓Zt,Zu,vcNil,ptrV,intV,Zl9,Zma,Zmb,Jq,WI,YT,ZaN,Zau,ZaO, *]) | (refine hr0.len (by simp [XL]) ?_)))
    refine inner_ok (p:=pv p vw vd) (fun _ _ _ h=>h) (fun _ _ _ _ e h=>⟨e.trans h.1,h.2⟩) hG hby hbl hin k4 k9 k10 ⟨rfl,(by simp only [Zv,Zl9,if_false, *]<;>rfl),(by simp only [Zv,Zl9,if_false, *]<;>rfl),(by simp only [Zv,Zl9,if_false, *]<;>rfl),(by simp only [Zv,Zl9,if_true,if_false, *]<;>rfl),(by simp only [Zv,Zl9,if_true,if_false, *]<;>rfl),(by simp only [Zv,Zl9,if_false, *]<;>rfl),(by simp only [Zv,Zl9,if_false, *]<;>rfl)⟩ (by simp only [Zv,Zl9,if_true,if_false, *]<;>rfl) hR.out hd.out (fun A' H2 vw' vd' hA' hR'=>?_);clear hR h3 h9 h14 h95 h96 q9 qc qs hr0 d0 hlen;obtain ⟨t,d⟩:=A';obtain ⟨hdd,h3,h9,h14,_,_,h95,h96⟩:=hA';dsimp only at hdd h3 h9 h14 h95 h96;subst hdd;show ACx _ c43_1 _ _ _;delta c43_1 Zm Za;replace hR':=Hold.mk hR';refine YL rfl (fun _ _ _ h=>h) ?_
    (repeat' (first | (simp only [↓Zt,Zu,ptrV,Zl9,Zma, *]) | (with_reducible refine And.intro ?_ ?_)))
    all_goals rw [ZQ (n:=(i:Int)+1) (by omega) (by omega)]
    ·exact ⟨i+1,by omega,rfl,vw',vd',_,hR'.out,hd2.out,by rw [show l.length+1-(i+1)=l.length-i by omega]; exact hC.out⟩
    ·omega
  ·have hil:¬ (i:Int)<((l.length+1:Nat):Int):=by omega
   obtain rfl:i=l.length+1:=by omega
   rw [Nat.sub_self] at hC;unfold readR at hC;subst hC;replace hR:=Hold.mk hR;replace hD:=Hold.mk hD;replace hd:=Hold.mk hd
   (repeat' (first | (simp only [↓Zt,Zu,ptrV,Zma, *])))
   exact hD.out _ _ vw vd _ (Zmc _) rfl (by simp only [Zv,Zl9,if_false, *]<;>rfl) hR.out hd.out
end Go.PV.Ytfkkmdelpddojaa
end
section
open List renaming drop→Zmb,map_cons→Zmd,map_nil→Zmg,getElem?_cons_zero→ZmC,getElem?_cons_succ→ZmD
open Nat renaming le_refl→Zmc,reduceEqDiff→Zl9,reduceLT→Zma,succ_ne_self→Zme,zero_add→Zmh,zero_le→ZmU
set_option maxRecDepth 20000
set_option maxHeartbeats 4000000
namespace Go.PV.Ytfkkmdelpddojaa
open Go Go.Proofs
structure RSf (g:List Pd) (l:List Tk) (n:Nat) (p:Par) (vs:Nat→VV) (by_:ByteArray→List Int) (C:Ch) (D:Sp→List Int) (B:OB RK):Prop where
 chart:B .chart=some (p.rc,.cells 127 [pdsV g,tksV l,.lit (.slice (some ⟨p.rs,0,none⟩) (n+1) (n+1)),mapV p.rd,mapV p.rk] 0)
 sets:B .sets=some (p.rs,.cells 122 (setsC n vs p.th p.wm) 0)
 th:∀ i,i≤n→B (.th i)=some (p.th i,.map (ZW Try.prog 119) (kmap stK fun s=>if s∈(C.sets i).st then some (boolV true) else none))
 wm:∀ i,i≤n→B (.wm i)=some (p.wm i,.map (ZW Try.prog 120) (smap fun s=>if (C.sets i).wt s=[] then none else some (p.vw i s)))
 km:B .km=some (p.rk,.map (ZW Try.prog 125) (kmap rsK fun _=>none))
 bm:B .bm=some (p.rb,.map (ZW Try.prog 148) (smap fun s=>if by_ s=[] then none else some (p.vb s)))
 st:∀ i,i≤n→SlO B (.st i) 129 3 stE (vs i) (C.sets i).st
 wt:∀ i,i≤n→∀ s,SlO B (.wt i s) 129 3 stE (p.vw i s) ((C.sets i).wt s)
 ds:∀ s,SlO B (.ds s) 3 1 intE (p.vd s) (D s)
 bs:∀ s,SlO B (.bs s) 3 1 intE (p.vb s) (by_ s)
 wn:∀ i,i≤n→∀ s,(C.sets i).wt s=[]→B (.wt i s)=none
 dn:∀ s,C.done s=[]→B (.ds s)=none
theorem RSf.of {g:List Pd} {l:List Tk} {n:Nat} {p:Par} {vs:Nat→VV} {by_:ByteArray→List Int} {C:Ch} {D:Sp→List Int} {B B':OB RK} (h:RSf g l n p vs by_ C D B) (hne:∀ k,¬ k=.dm→¬ k=.it→B' k=B k):RSf g l n p vs by_ C D B' :=
 ⟨(hne _ (by simp) (by simp)).trans h.chart,(hne _ (by simp) (by simp)).trans h.sets,fun i hi=>(hne _ (by simp) (by simp)).trans (h.th i hi),fun i hi=>(hne _ (by simp) (by simp)).trans (h.wm i hi),(hne _ (by simp) (by simp)).trans h.km,(hne _ (by simp) (by simp)).trans h.bm,fun i hi=>(h.st i hi).of (hne _ (by simp) (by simp)),fun i hi s=>(h.wt i hi s).of (hne _ (by simp) (by simp)),fun s=>(h.ds s).of (hne _ (by simp) (by simp)),fun s=>(h.bs s).of (hne _ (by simp) (by simp)),fun i hi s hs=>(hne _ (by simp) (by simp)).trans (h.wn i hi s hs),fun s hs=>(hne _ (by simp) (by simp)).trans (h.dn s hs)⟩
theorem RSf.done {g:List Pd} {l:List Tk} {n:Nat} {p:Par} {vs:Nat→VV} {by_:ByteArray→List Int} {C:Ch} {D D':Sp→List Int} {B B':OB RK} (h:RSf g l n p vs by_ C D B) {s0:Sp} (hne:∀ k,¬ k=.ds s0→¬ k=.it→B' k=B k) (hs:SlO B' (.ds s0) 3 1 intE (p.vd s0) (D' s0)) (hd:∀ s,¬ s=s0→D' s=D s) (h0:¬ C.done s0=[]):RSf g l n p vs by_ C D' B' :=
 ⟨(hne _ (by simp) (by simp)).trans h.chart,(hne _ (by simp) (by simp)).trans h.sets,fun i hi=>(hne _ (by simp) (by simp)).trans (h.th i hi),fun i hi=>(hne _ (by simp) (by simp)).trans (h.wm i hi),(hne _ (by simp) (by simp)).trans h.km,(hne _ (by simp) (by simp)).trans h.bm,fun i hi=>(h.st i hi).of (hne _ (by simp) (by simp)),fun i hi s=>(h.wt i hi s).of (hne _ (by simp) (by simp)),fun s=>by
   by_cases e:s=s0
   ·subst e; exact hs
   ·rw [hd s e]; exact (h.ds s).of (hne _ (by simp [e]) (by simp)),fun s=>(h.bs s).of (hne _ (by simp) (by simp)),fun i hi s hs=>(hne _ (by simp) (by simp)).trans (h.wn i hi s hs),fun s hs=>(hne _ (by rintro e; cases e; exact h0 hs) (by simp)).trans (h.dn s hs)⟩
structure DI (C:Ch) (D:Sp→List Int) (arr:Array MapEntry) (seen:Array Nat):Prop where
 at_:∀ e∈arr.toList,∀ s,spK s=e.key→D s=if seen.contains e.born=true then srtI (C.done s) else C.done s
 nil:∀ s,C.done s=[]→D s=[]
theorem pw_eq {α β:Type} (f:α→β):∀ {l:List α},l.Pairwise (fun a b=>f a ≠ f b)→∀ {a b:α},a∈l→b∈l→f a=f b→a=b
 | [],_,_,_,h,_,_=>by cases h
 | x::l,hp,a,b,ha,hb,e=>by
   have hp:=List.pairwise_cons.1 hp;rcases List.mem_cons.1 ha with rfl | ha2
   ·rcases List.mem_cons.1 hb with rfl | hb2
    ·rfl
    ·exact absurd e (hp.1 _ hb2)
   ·rcases List.mem_cons.1 hb with rfl | hb2
    ·exact absurd e.symm (hp.1 _ ha2)
    ·exact pw_eq f hp.2 ha2 hb2 e
theorem pair_eq {arr:Array MapEntry} (hk:arr.toList.Pairwise (fun a b=>a.key ≠ b.key)) {a b:MapEntry} (ha:a∈arr.toList) (hb:b∈arr.toList) (e:a.key=b.key):a=b:=pw_eq (·.key) hk ha hb e
theorem born_eq {arr:Array MapEntry} (hn:(arr.toList.map (·.born)).Nodup) {a b:MapEntry} (ha:a∈arr.toList) (hb:b∈arr.toList) (e:a.born=b.born):a=b:=pw_eq (·.born) ((List.pairwise_map (f:=fun e:MapEntry=>e.born) (R:=fun a b:Nat=>a ≠ b)).1 hn) ha hb e
theorem DI.step {C:Ch} {D:Sp→List Int} {arr:Array MapEntry} {seen:Array Nat} {m:Value→Option VV} {clock:Nat} (hE:Ents m arr clock) (h:DI C D arr seen) {e:MapEntry} (he:e∈arr.toList) {s0:Sp} (hs:spK s0=e.key) (h0:¬ C.done s0=[]):DI C (fun s=>if s=s0 then srtI (C.done s0) else D s) arr (seen.push e.born):=by
 refine ⟨fun e' he' s hk=>?_,fun s hn=>?_⟩
 ·have hc:(seen.push e.born).contains e'.born=(seen.contains e'.born || (e'.born == e.born)):=contains_push _ _ _;by_cases e1:s=s0
  ·subst e1
   have:=pair_eq hE.keys he' he (hk.symm.trans hs)
   subst this;rw [if_pos rfl,hc,if_pos (by simp)]
  ·have hne:¬ e'.born=e.born:=fun e2=>by
    have:=born_eq hE.nd he' he e2
    subst this;exact e1 (Zd0 _ _ (hk.trans hs.symm))
   rw [if_neg e1,h.at_ e' he' s hk,hc];simp [hne]
 ·rw [if_neg (fun e=>h0 (by rw [← e]; exact hn))];exact h.nil s hn
def SSat (H1 H:AH) (g:List Pd) (l:List Tk) (n:Nat) (p:Par) (by_:ByteArray→List Int) (C:Ch) (arr:Array MapEntry) (clock rit:Nat) (seen:Array Nat):Prop :=
 ∃ vs D B,Objs H1 H B∧RSf g l n p vs by_ C D B∧DI C D arr seen∧B .dm=some (p.rd,.obj (.map arr clock))∧B .it=some (rit,.obj (.mapIter (some p.rd) clock seen clock))
noncomputable abbrev doneM (C:Ch) (p:Par):Value→Option VV:=kmap spK fun s=>if C.done s=[] then none else some (p.vd s)
theorem next_ok {H:AH} {K:VE→AH→Prop} {m:Value→Option VV} {arr:Array MapEntry} {clock rit b:Nat} {seen:Array Nat} (hE:Ents m arr clock) (hr:H rit=some (.obj (.mapIter (some b) clock seen clock))) (hb:H b=some (.obj (.map arr clock)))
 (h0:(leftOf arr seen).size=0→K (.ret (.tuple [.lit (.bool false)])) H) (h1:∀ e∈(leftOf arr seen).toList,K (.ret (.tuple [.lit (.bool true),.lit e.key,.lit e.val])) (H.set rit (.obj (.mapIter (some b) clock (seen.push e.born) clock)))):ZaG (ptrV rit 0) H K:=by
 unfold ZaG ptrV;simp only [hr,hb];exact ⟨hE.old,Zmc _,h0,h1⟩
theorem round_ok {H1 H:AH} {g:List Pd} {l:List Tk} {n:Nat} {p:Par} {by_:ByteArray→List Int} {C:Ch} {arr:Array MapEntry} {clock rit:Nat} {seen:Array Nat} (hE:Ents (doneM C p) arr clock) (hl:∀ s,(C.done s).length≤12) (h:SSat H1 H g l n p by_ C arr clock rit seen) {e:MapEntry} (he:e∈(leftOf arr seen).toList) :
 (∀ K:VE→AH→Prop,K (.ret (.tuple [.lit e.key,.lit e.val])) (H.set rit (.obj (.mapIter (some p.rd) clock (seen.push e.born) clock)))→Zat (ptrV rit 0) (H.set rit (.obj (.mapIter (some p.rd) clock (seen.push e.born) clock))) K) ∧
 ∀ K:VE→AH→Prop,(∀ H',SSat H1 H' g l n p by_ C arr clock rit (seen.push e.born)→K (.ret (.tuple [])) H')→ZO Try.prog 81 [.lit e.val] (H.set rit (.obj (.mapIter (some p.rd) clock (seen.push e.born) clock))) K:=by
 obtain ⟨vs,D,B,ho,hf,hd,hm,hi⟩:=h;have hne:¬ p.rd=rit:=ho.apart hm hi (by simp);obtain ⟨hea,hec⟩:=mem_left he;have ho2:=ho.set hi (.obj (.mapIter (some p.rd) clock (seen.push e.born) clock));have hm2:=ho2.at_ _ _ _ ((OB.put_ne _ _ (by simp)).trans hm);generalize hHn:H.set rit (.obj (.mapIter (some p.rd) clock (seen.push e.born) clock))=Hn at *
 constructor
 ·intro K hK;unfold Zat ptrV;have hr2:Hn rit=some (.obj (.mapIter (some p.rd) clock (seen.push e.born) clock)):=by rw [← hHn,AH.set_same]
  simp only [hr2,hm2];exact ⟨trivial,seen,e,rfl,hea,hE.nd,hK⟩
 ·intro K hK;obtain ⟨s0,hk0,hv0⟩:=Zee (hE.get e hea);have h0:¬ C.done s0=[]:=fun e0=>by rw [if_pos e0] at hv0; cases hv0
  rw [if_neg h0] at hv0;have hv:p.vd s0=.lit e.val:=by injection hv0
  have hD0:=hd.at_ e hea s0 hk0;rw [if_neg (by rw [hec]; simp)] at hD0;have hslo:=hf.ds s0;rw [hv,hD0] at hslo;rcases hslo with ⟨e0,_⟩ | ⟨a,c,sp,hva,hba,q1,q2,q3⟩
  ·exact absurd e0 h0
  ·injection hva with hva
   rw [hva];have hba2:(B.put .it (some (rit,.obj (.mapIter (some p.rd) clock (seen.push e.born) clock)))) (.ds s0)=some (a,.cells 3 (encC intE (C.done s0)) sp):=(OB.put_ne _ _ (by simp)).trans hba;refine ZkS (hl s0) (ho2.at_ _ _ _ hba2) fun l' hp hs=>hK _ ?_
   have hl':l'=srtI (C.done s0):=ZhU hp hs;subst hl';refine ⟨vs,fun s=>if s=s0 then srtI (C.done s0) else D s,_,ho2.set hba2 _,hf.done (s0:=s0) (fun k k1 k2=>by rw [OB.put_ne _ _ k1,OB.put_ne _ _ k2]) ?_ (fun s hs=>if_neg hs) h0,hd.step hE hea hk0 h0,(OB.put_ne _ _ (by simp)).trans ((OB.put_ne _ _ (by simp)).trans hm),(OB.put_ne _ _ (by simp)).trans (OB.put_same _ _ _)⟩;rw [hv,hva,if_pos rfl];refine .inr ⟨a,c,sp,?_,OB.put_same _ _ _,?_,?_,q3⟩
   ·rw [hp.length_eq]
   ·rw [hp.length_eq]; exact q1
   ·rw [hp.length_eq]; exact q2
theorem range_ok {H:AH} {K:VE→AH→Prop} {t:TypeId} {b clock:Nat} {arr:Array MapEntry} (hm:mapD (Program.underlying Try.prog t)=true) (hb:H b=some (.obj (.map arr clock))) (h:Zbe H fun r=>K (.ret (ptrV r 0)) (H.set r (.obj (.mapIter (some b) clock #[] clock)))):Zbx Try.prog t (mapV b) H K:=by
 unfold Zbx mapV;simp only [hb];exact ⟨hm,h⟩
theorem ZdH {l:List Int}:srtI l=[]↔l=[]:=⟨fun h=>by have:=(Jb l).length_eq; rw [h] at this; exact List.length_eq_zero_iff.1 this.symm,fun h=>by subst h; exact List.length_eq_zero_iff.1 (Jb []).length_eq⟩
theorem SSat.out {H1 H:AH} {g:List Pd} {l:List Tk} {n:Nat} {p:Par} {by_:ByteArray→List Int} {C:Ch} {arr:Array MapEntry} {clock rit:Nat} {seen:Array Nat} (hE:Ents (doneM C p) arr clock) (h:SSat H1 H g l n p by_ C arr clock rit seen) (h0:(leftOf arr seen).size=0) :
 RSat H1 (H.set p.rd (.map (ZW Try.prog 124) (doneM C p))) g l n p by_ C.sorted:=by
 obtain ⟨vs,D,B,ho,hf,hd,hm,hi⟩:=h
 have hall:∀ e∈arr.toList,seen.contains e.born=true:=fun x hx=>by
  have h2:leftOf arr seen=#[]:=Array.eq_empty_of_size_eq_zero h0;unfold leftOf at h2;rw [Array.filter_eq_empty_iff] at h2;have h3:=h2 x (Array.mem_toList_iff.1 hx);cases hc:seen.contains x.born with
  | true=>rfl
  | false=>rw [hc] at h3; exact absurd rfl h3
 have hD:∀ s,D s=srtI (C.done s):=fun s=>by
  by_cases e:C.done s=[]
  ·rw [hd.nil s e,e]; exact (ZdH.2 rfl).symm
  ·obtain ⟨x,hx,hk⟩:=hE.all (spK s) (p.vd s) ((ZdT Zd0 _ s).trans (if_neg e));rw [hd.at_ x hx s hk.symm,if_pos (hall x hx)]
 have hf2:RSf g l n p vs by_ C D (B.put .dm (some (p.rd,.map (ZW Try.prog 124) (doneM C p)))):=hf.of fun k k1 k2=>OB.put_ne _ _ k1
 refine ⟨vs,_,⟨ho.set hm _,hf2.chart,hf2.sets,hf2.th,hf2.wm,?_,hf2.km,hf2.bm,hf2.st,hf2.wt,fun s=>?_,hf2.bs,hf2.wn,fun s hs=>hf2.dn s (ZdH.1 hs)⟩⟩
 ·rw [OB.put_same]
  have:(fun s=>if C.sorted.done s=[] then none else some (p.vd s))=fun s=>if C.done s=[] then none else some (p.vd s):=by
   funext s
   by_cases e:C.done s=[]
   ·rw [if_pos e,if_pos (show C.sorted.done s=[] from ZdH.2 e)]
   ·rw [if_neg e,if_neg (show ¬ C.sorted.done s=[] from fun h=>e (ZdH.1 h))]
  rw [this]
 ·have:=hf2.ds s
  rw [hD s] at this;exact this
theorem readD_ok {H1 H:AH} {g:List Pd} {l:List Tk} {n r9:Nat} {p:Par} {by_:ByteArray→List Int} {C:Ch} {A:AF} {K:VE→AH→Prop} (k9:H1 r9=some (.cells 93 [ptrV p.rc 0] 0)) (hl:∀ s,(C.done s).length≤12) (hR:RSat H1 H g l n p by_ C) (hd:A.d=[]) (h9:A.t 9=ptrV r9 0)
 (hK:∀ H',RSat H1 H' g l n p by_ C.sorted→K (.ret (ptrV p.rc 0)) H'):ACx ⟨Try.prog,205,none⟩ Zl0 (Jd Try.prog [.tmp 8] K) A H:=by
 obtain ⟨t,d⟩:=A;dsimp only at hd h9;subst hd;obtain ⟨vs,B,hx⟩:=hR;refine acx_show (hx.ob.at_ _ _ _ hx.dm) (fun k y hy=>?_) fun arr clock hE hks=>?_
 ·obtain ⟨a,rfl,ha⟩:=Zee hy;by_cases e:C.done a=[]
  ·rw [if_pos e] at ha; cases ha
  ·rw [if_neg e] at ha; cases ha;obtain ⟨x,c,hx⟩:=(hx.ds a).form;exact ⟨_,hx⟩
 ·have ho:=hx.ob.set hx.dm (.obj (.map arr clock));have hf:RSf g l n p vs by_ C C.done (B.put .dm (some (p.rd,.obj (.map arr clock)))):=RSf.of (B:=B) ⟨hx.chart,hx.sets,hx.th,hx.wm,hx.km,hx.bm,hx.st,hx.wt,hx.ds,hx.bs,hx.wn,hx.dn⟩ fun k k1 k2=>OB.put_ne _ _ k1
  have hm:(B.put .dm (some (p.rd,.obj (.map arr clock)))) .dm=some (p.rd,.obj (.map arr clock)):=OB.put_same _ _ _;generalize B.put .dm (some (p.rd,.obj (.map arr clock)))=B2 at *
  generalize H.set p.rd (.obj (.map arr clock))=Hc at *
  clear hx B;have qm:=ho.at_ _ _ _ hm;have qc:=ho.at_ _ _ _ hf.chart;have q9:=ho.keep k9;delta Zl0 Zb Zq Zr Zd;replace hE:=Hold.mk hE;replace hf:=Hold.mk hf;replace ho:=Hold.mk ho;replace hK:=Hold.mk hK;refine YL rfl (fun _ _ _ h=>h) ?_
  (repeat' (first | (refine range_ok (by kernel_rfl) qm ?_) | (simp only [↓Ya,↓Ye,↓JE,↓Ys,↓Zcv,↓ZY,↓ZF,↓ZD,↓ZG,↓ZH,↓ZJ,↓ZI,↓Zv,↓ZS,↓Yh,↓ZA,vcNil,ptrV,ite_true,ite_false,Zl9,Zma,ne_eq,not_false_eq_true,true_and,Zme,eq_self,Zmh,Zmb,Yq,Yn,YK,Yo,Yp,YG,s_range,Zd8,YT,ZhF, *]) | (refine Zw fun zr zh=>?_; have zg:=zh; (try simp only [AH.set_none] at zg); (try have zn_q9:=AH.ne_of q9 zh); (try have zn_q9:=AH.ne_of q9 zg.2); (try have zn_q9:=AH.ne_of q9 zg.2.2); (try have zn_q9:=AH.ne_of q9 zg.2.2.2); (try have zn_q9:=AH.ne_of q9 zg.2.2.2.2); (try have zn_qc:=AH.ne_of qc zh); (try have zn_qc:=AH.ne_of qc zg.2); (try have zn_qc:=AH.ne_of qc zg.2.2); (try have zn_qc:=AH.ne_of qc zg.2.2.2); (try have zn_qc:=AH.ne_of qc zg.2.2.2.2))))
  have hS:SSat H1 (Hc.set zr (.obj (.mapIter (some p.rd) clock #[] clock))) g l n p by_ C arr clock zr #[] :=
   ⟨vs,C.done,_,ho.out.alloc zh .it _,hf.out.of fun k k1 k2=>OB.put_ne _ _ k2,⟨fun e he s hs=>by rw [if_neg (by simp)],fun s hs=>hs⟩,(OB.put_ne _ _ (by simp)).trans hm,OB.put_same _ _ _⟩
  replace hE:=hE.out;replace hK:=hK.out;clear ho hf hm qm qc q9 zh zg B2 vs zn_q9 zn_qc
  refine YJ (fun _ _ _ h=>h) (fun A H'=>A.d=[]∧A.t 9=ptrV r9 0∧A.t 197=ptrV zr 0∧∃ seen,SSat H1 H' g l n p by_ C arr clock zr seen)
   (fun A H'=>match H' zr with | some (.obj (.mapIter _ _ seen _))=>(leftOf arr seen).size | _=>0) ?_ ?_
  ·exact ⟨rfl,(by simp only [Zv,Zl9,if_false, *]<;>rfl),(by simp only [Zv,Zl9,if_true,if_false, *]<;>rfl),_,hS⟩
  ·clear hS h9;rintro ⟨t,d⟩ H' ⟨hdd,h9,h197,seen,hS⟩;dsimp only at hdd h9 h197;subst hdd;have hS2:=hS;obtain ⟨vs,D,B,ho,hf,hd,hm,hi⟩:=hS2;have qm:=ho.at_ _ _ _ hm;have qi:=ho.at_ _ _ _ hi;have q9:=ho.keep k9;clear ho hf hd hm hi vs D B;have hrd:=fun e he=>round_ok hE hl hS (e:=e) he
   have hsh:=fun e he=>left_shrinks arr seen e he
   have hout:=fun h0=>SSat.out hE hS h0
   have hqi:∀ e H3,SSat H1 H3 g l n p by_ C arr clock zr (Array.push seen e)→H3 zr=some (.obj (.mapIter (some p.rd) clock (seen.push e) clock)):=fun e H3 h=>by
    obtain ⟨vs,D,B,ho,hf,hd,hm,hi⟩:=h;exact ho.at_ _ _ _ hi
   rw [qi];dsimp only;replace hS:=Hold.mk hS;replace hK:=Hold.mk hK;replace hout:=Hold.mk hout;replace hsh:=Hold.mk hsh;replace hqi:=Hold.mk hqi;replace hl:=Hold.mk hl;delta b43_5 Zq Zr Zh Zc Za Zo
   (repeat' (first | (refine next_ok hE qi qm (fun h0=>?_) (fun e he=>?_)) | (refine (hrd _ he).1 _ ?_) | (refine (hrd _ he).2 _ (fun H3 hS3=>?_)) | (simp only [↓Yt,↓Ya,↓Ye,↓ZZ,↓Yb,↓Yv,↓Ys,↓ZaJ,↓ZY,↓ZF,↓ZD,↓JB,↓Jg,↓ZcU,↓ZG,↓ZH,↓ZJ,↓ZI,↓ZU,↓Zv,↓ZR,↓ZE,↓Xj,↓ZK,↓ZL,Yw,ptrV,Zmd,Zmg,ite_true,ite_false,Zl9,Zma,true_and,Zme,eq_self,ZmC,ZmD,s_next,s_entry,en_81, *]) | (with_reducible refine And.intro ?_ ?_)))
   ·have hR:=hout.out h0;refine ZgS (Ghost.hide qm hE hks) ?_;have w9:=hR.keep k9;have hk:=hK.out _ hR;generalize H'.set p.rd _=H3 at *
    delta c43_2 Zb Zc;replace hR:=Hold.mk hR;refine YL rfl (fun _ _ _ h=>h) ?_
    (repeat' (first | (simp only [↓Zt,Zu,ptrV,Zl9,Zma,Zmb,YT, *]) | (refine ZC ?_) | assumption))
   ·exact ⟨_,hS3⟩
   ·rw [hqi.out _ _ hS3];exact hsh.out _ he
theorem Zi7 {C:Ch} {i n e:Nat} (hi:i≤n+1) (he:n<e):prS C i 0 e=[]:=by
 unfold prS;rw [if_neg (by omega)]
 split<;>simp
theorem Zk0 {g:List Pd} {n i:Nat} {C:Ch} (hG:GOk g n) (h:Rd g n C i 0) (hi:i≤n+1) (s:Sp):(C.done s).length≤12:=by
 obtain ⟨a,e⟩:=s;by_cases he:e≤n
 ·obtain ⟨h1,h2⟩:=ZhV h a e he;exact Nat.le_trans (JZ h1 h2) hG.len
 ·rw [h.dn a e,Zi7 hi (by omega)];exact ZmU _
theorem read_ok {H:AH} {g:List Pd} {l:List Tk} {sym:ByteArray} {least:Int} {K:VE→AH→Prop} (hG:GOk g l.length) (hsz:sym.size≤maxLen)
 (hK:∀ H' p,RSat H H' g l l.length p (byF g) (readF g sym least l).sorted→K (.ret (ptrV p.rc 0)) H'):ZO Try.prog 43 [pdsV g,sV sym,iV least,tksV l] H K:=by
 refine readA_ok hG fun A H1 H2 r4 r9 r10 rc rd rk rb vb B hA hP=>?_
 refine readB_ok hG.n hA hP fun A H2 p hA e1 e2 hR=>?_
 subst e1 e2;refine readC_ok hG hsz hA hR fun A' H' vw vd i hi hd h9 hR hrd=>?_
 exact readD_ok (p:=pv p vw vd) hA.k9 (Zk0 hG hrd hi) hR hd h9 fun H' hR=>hK H' (pv p vw vd) (hR.weak hA.sub)
end Go.PV.Ytfkkmdelpddojaa
end
section
open List renaming getD_cons_zero→Zmq,getD_cons_succ→Zmr,getD_nil→Zms,drop→Zmb
open Nat renaming reduceEqDiff→Zl9,reduceLT→Zma,succ_ne_self→Zme,zero_add→Zmh
set_option maxRecDepth 20000
set_option maxHeartbeats 4000000
namespace Go.PV.Ytfkkmdelpddojaa
open Go Go.Proofs
def IlR (H:AH) (v:VV) (l:List Int):Prop:=(l=[]∧v=.lit (.slice none 0 0))∨∃ a c sp,v=.lit (.slice (some ⟨a,0,none⟩) l.length c)∧H a=some (.cells 3 (encC intE l) sp)
theorem IlR.mono {H H':AH} {v:VV} {l:List Int} (h:IlR H v l) (hs:SubH H H'):IlR H' v l:=by
 rcases h with h | ⟨a,c,sp,h1,h2⟩
 ·exact .inl h
 ·exact .inr ⟨a,c,sp,h1,hs _ _ h2⟩
theorem IlR.read {H:AH} {v:VV} {l:List Int} (h:IlR H v l):SlR H v l.length (encC intE l):=by
 rcases h with ⟨rfl,rfl⟩ | ⟨a,c,sp,rfl,h2⟩
 ·exact .inr (.inl ⟨rfl,rfl,rfl⟩)
 ·exact .inr (.inr ⟨a,0,c,_,_,sp,rfl,h2,rfl⟩)
abbrev FC1 (g:List Pd) (l:List Tk) (dn:Sp→List Int) (rc rk:Nat) (Hb:AH):Prop:=∃ (rs rd:Nat) (vd:Sp→VV),Hb rc=some (.cells 127 [pdsV g,tksV l,.lit (.slice (some ⟨rs,0,none⟩) (l.length+1) (l.length+1)),mapV rd,mapV rk] 0)∧Hb rd=some (.map (ZW Try.prog 124) (kmap spK fun s=>if dn s=[] then none else some (vd s)))∧∀ s,¬ dn s=[]→IlR Hb (vd s) (dn s)
structure FCh (g:List Pd) (l:List Tk) (dn:Sp→List Int) (rc rk:Nat) (Hb:AH):Prop where
 chart:FC1 g l dn rc rk Hb
 off:Hb rk=none
theorem FC1.mono {g:List Pd} {l:List Tk} {dn:Sp→List Int} {rc rk:Nat} {Hb Hb':AH} (h:FC1 g l dn rc rk Hb) (hs:SubH Hb Hb'):FC1 g l dn rc rk Hb':=by
 obtain ⟨rs,rd,vd,h1,h2,h3⟩:=h;exact ⟨rs,rd,vd,hs _ _ h1,hs _ _ h2,fun s hn=>(h3 s hn).mono hs⟩
theorem FCh.mono {g:List Pd} {l:List Tk} {dn:Sp→List Int} {rc rk:Nat} {Hb Hb':AH} (h:FCh g l dn rc rk Hb) (hs:SubH Hb Hb') (ho:Hb' rk=none):FCh g l dn rc rk Hb':=by
 obtain ⟨⟨rs,rd,vd,h1,h2,h3⟩,h4⟩:=h;exact ⟨⟨rs,rd,vd,hs _ _ h1,hs _ _ h2,fun s hn=>(h3 s hn).mono hs⟩,ho⟩
structure DOk (g:List Pd) (l:List Tk) (dn:Sp→List Int):Prop where
 gok:GOk g l.length
 len:∀ s,(dn s).length≤12
 in_:∀ s,∀ q∈dn s,0≤q∧q<(g.length:Int)
 kd:∀ p∈g,∀ i∈p.items,1≤i.kind∧i.kind≤3
theorem Zi8 {g:List Pd} {l:List Tk} {dn:Sp→List Int} {rc rk:Nat} {Hb:AH} (h:FC1 g l dn rc rk Hb) {s:Sp} (hs:spOk s):∃ v,IlR Hb v (dn s)∧∀ H,SubH Hb H→ReadF Try.prog 49 [ptrV rc 0,spV s] v H:=by
 obtain ⟨rs,rd,vd,h1,h2,h3⟩:=h;refine ⟨slO (dn s) (vd s),?_,fun H hsub=>?_⟩
 ·unfold slO;by_cases e:dn s=[]
  ·rw [if_pos e,e]; exact .inl ⟨rfl,rfl⟩
  ·rw [if_neg e]; exact h3 s e
 ·have qc:=hsub _ _ h1;have qd:=hsub _ _ h2
  have hlk:∀ (H':AH) (K':VE→AH→Prop),H' rd=some (.map (ZW Try.prog 124) (kmap spK fun s=>if dn s=[] then none else some (vd s)))→K' (.ret (slO (dn s) (vd s))) H'→XP Try.prog 124 (mapV rd) (.agg [iV s.1,iV s.2]) false H' K':=fun H' K' hr hk=>by
   refine Za1 (kx:=spV) (a:=s) kmSp hs hr (fun y hy=>?_) (fun hy=>?_)
   ·by_cases e:dn s=[]
    ·rw [if_pos e] at hy; cases hy
    ·rw [if_neg e] at hy; cases hy;unfold slO at hk; rw [if_neg e] at hk; exact hk
   ·by_cases e:dn s=[]
    ·unfold slO at hk; rw [if_pos e] at hk; exact hk
    ·rw [if_neg e] at hy; cases hy
  generalize slO (dn s) (vd s)=v at *
  clear h1 h2 h3;refine Zy fd49 (by simp) ?_;delta c49 Zj Zq Za Zr Zd Zb Zc
  (repeat' (first | (refine hlk _ _ ((AH.set_ne _ _ zn_qd.1).trans qd) ?_) | (simp only [↓Ya,↓Ye,↓Xe,↓XF,↓ZY,↓ZF,↓ZD,↓ZG,↓ZH,↓ZJ,↓ZI,↓ZP,↓Zv,↓ZR,↓ZE,↓ZS,↓Yh,↓Wx,↓ZA,↓Wn,vcNil,ptrV,Zmq,Zmr,Zms,ite_true,ite_false,Zl9,Zma,ne_eq,not_false_eq_true,true_and,Zme,reduceCtorEq,Zx,↓Xc,↓Xg,AH.get,eq_self,Zmh,Zmb,Yq,JG,YB,↓Wz,Yn,YK,Yo,Yp,YG,↓Wy,undef,Zd8,ZhF,ZbE, *]) | (refine ZC ?_) | (refine Yf mixed (fun _ _ _ _ e h=>⟨e.trans h.1,h.2⟩) _ (SubH.refl _) ?_) | (refine Zw fun zr zh=>?_; have zg:=zh; (try simp only [AH.set_none] at zg); (try have zn_qc:=AH.ne_of qc zh); (try have zn_qc:=AH.ne_of qc zg.2); (try have zn_qc:=AH.ne_of qc zg.2.2); (try have zn_qc:=AH.ne_of qc zg.2.2.2); (try have zn_qc:=AH.ne_of qc zg.2.2.2.2); (try have zn_qd:=AH.ne_of qd zh); (try have zn_qd:=AH.ne_of qd zg.2); (try have zn_qd:=AH.ne_of qd zg.2.2); (try have zn_qd:=AH.ne_of qd zg.2.2.2); (try have zn_qd:=AH.ne_of qd zg.2.2.2.2)) | (exact SubH.refl _) | (refine SubH.of_set ?_ ?_)))
def XN (p:Pd):Bool:=match p.items with
 | [i]=>decide (i.kind=3)
 | _=>false
theorem ZfF {g:List Pd} {l:List Tk} {dn:Sp→List Int} {rc rk:Nat} {Hb H:AH} (h:FC1 g l dn rc rk Hb) (hd:DOk g l dn) (hs:SubH Hb H) {q:Nat} (hq:q<g.length):ReadF Try.prog 84 [ptrV rc 0,iV q] (boolV (XN g[q])) H:=by
 obtain ⟨rs,rd,vd,h1,h2,h3⟩:=h;have qc:=hs _ _ h1;clear h1 h2 h3;have hdi:=WG hq;have hqi:(q:Int)<(g.length:Int):=by omega
 refine Zy fd84 (by simp) ?_;delta c84 Zq Za Zr Zd Zb Zk Zc Ze Zm Zp;generalize g[q]=p at *
 by_cases h1:p.items.length=1
 ·obtain ⟨i,hi⟩:=List.length_eq_one_iff.1 h1;have hsf:XN p=decide (i.kind=3):=by unfold XN; rw [hi]
  rw [hsf];have hil:(p.items.length:Int)=1:=by omega
  have hi0:(0:Int)<(p.items.length:Int):=by omega
  have hti:(encC itE p.items).drop ((0:Int).toNat * 3)=iV i.kind::sV i.text::iV i.prio::[]:=by rw [hi]; rfl
  clear h1 hi hsf
  (repeat' (first | (simp only [↓Zt,Zu,vcNil,ptrV,intV,boolV,Zl9,Zma,reduceCtorEq,Zx,Zmb,undef,Int.reduceLT,Int.reduceLE,YU,Xh,Xd,Xz,Wi,Yd,Xb,Xu, *]) | (refine ZC ?_) | (exact SubH.refl _)))
 ·have hsf:XN p=false:=by
   unfold XN;split
   ·rename_i hi; rw [hi] at h1; exact absurd rfl h1
   ·rfl
  rw [hsf];have hil:¬ (p.items.length:Int)=1:=by omega
  clear h1 hsf
  (repeat' (first | (simp only [↓Zt,Zu,vcNil,ptrV,intV,boolV,Zl9,Zma,reduceCtorEq,Yc,Zx,Zmb,undef,YU,Xh,Xz,Wi,Xb,Xu, *]) | (refine ZC ?_) | (exact SubH.refl _)))
theorem Zk1 {g:List Pd} {l:List Tk} {dn:Sp→List Int} {rc rk:Nat} {Hb:AH} (h:FCh g l dn rc rk Hb) {s:Sp} (hs:spOk s):∃ v,IlR Hb v (dn s)∧∀ H,SubH Hb H→ReadF Try.prog 49 [ptrV rc 0,spV s] v H:=Zi8 h.chart hs
theorem ZlD {g:List Pd} {l:List Tk} {dn:Sp→List Int} {rc rk:Nat} {Hb H:AH} (h:FCh g l dn rc rk Hb) (hd:DOk g l dn) (hs:SubH Hb H) {q:Nat} (hq:q<g.length):ReadF Try.prog 84 [ptrV rc 0,iV q] (boolV (XN g[q])) H:=ZfF h.chart hd hs hq
end Go.PV.Ytfkkmdelpddojaa
end
section
open List renaming range→Zmm,getD_cons_zero→Zmq,getD_cons_succ→Zmr,getD_nil→Zms,drop→Zmb,getElem?_cons_zero→ZmC,getElem?_cons_succ→ZmD,map_cons→Zmd,map_nil→Zmg
open Nat renaming reduceEqDiff→Zl9,reduceLT→Zma,succ_ne_self→Zme,zero_add→Zmh
set_option maxRecDepth 20000
set_option maxHeartbeats 4000000
namespace Go.PV.Ytfkkmdelpddojaa
open Go Go.Proofs
def hasF (g:List Pd) (dn:Sp→List Int) (i:It) (f t:Nat):Bool:=(dn (f,t)).any fun q=>YH (pdAt g q) i.text i.prio
def tkAt (l:List Tk) (f:Nat):Tk:=match l[f]? with | some t=>t | none=>⟨noNm,noNm⟩
def canL (l:List Tk) (has:It→Nat→Nat→Bool):List It→Nat→Nat→Bool
 | [],f,t=>decide (f=t)
 | i::is,f,t=>decide (f<t) && if i.kind=3 then (Zmm (t-f)).any fun j=>has i f (f+1+j) && canL l has is (f+1+j) t else takeF i (tkAt l f) && canL l has is (f+1) t
def canF (g:List Pd) (l:List Tk) (dn:Sp→List Int) (r:Rs):Bool:=canL l (hasF g dn) ((pdAt g r.prod).items.drop r.dot) r.from_ r.to
def Kt (g:List Pd) (l:List Tk) (dn:Sp→List Int) (rk:Nat) (Hb H:AH):Prop:=SubH Hb H∧∃ m:Rs→Option VV,H rk=some (.map (ZW Try.prog 125) (kmap rsK m))∧∀ r v,m r=some v→v=boolV (canF g l dn r)
def rOk (g:List Pd) (l:List Tk) (r:Rs):Prop:=r.prod<g.length∧r.dot≤(pdAt g r.prod).items.length∧r.from_≤l.length∧r.to≤l.length
abbrev rsVV (r:Rs):VV:=.agg [iV r.prod,iV r.dot,iV r.from_,iV r.to]
def CanOK (g:List Pd) (l:List Tk) (dn:Sp→List Int) (rc rk:Nat) (f:FuncId) (r:Rs):Prop :=
 ∀ (Hb H:AH) (K:VE→AH→Prop),FCh g l dn rc rk Hb→Kt g l dn rk Hb H→(∀ H',Kt g l dn rk Hb H'→K (.ret (boolV (canF g l dn r))) H')→ZO Try.prog f [ptrV rc 0,rsVV r] H K
theorem Kt.alloc {g:List Pd} {l:List Tk} {dn:Sp→List Int} {rc rk:Nat} {Hb H:AH} (hc:FCh g l dn rc rk Hb) (h:Kt g l dn rk Hb H) {z:Nat} (hz:H z=none) (b:Blk):Kt g l dn rk (Hb.set z b) (H.set z b)∧FCh g l dn rc rk (Hb.set z b):=by
 obtain ⟨hs,m,hm,hk⟩:=h;have hne:¬ rk=z:=fun e=>by subst e; rw [hz] at hm; cases hm
 exact ⟨⟨hs.set _ _,m,(AH.set_ne _ _ hne).trans hm,hk⟩,hc.mono (SubH.new (hs.none hz)) ((AH.set_ne _ _ hne).trans hc.off)⟩
theorem Kt.skip {g:List Pd} {l:List Tk} {dn:Sp→List Int} {rk:Nat} {Hb H:AH} (h:Kt g l dn rk Hb H) {z:Nat} (hz:H z=none) (b:Blk):Kt g l dn rk Hb (H.set z b):=by
 obtain ⟨hs,m,hm,hk⟩:=h;have hne:¬ rk=z:=fun e=>by subst e; rw [hz] at hm; cases hm
 exact ⟨hs.of_set (hs.none hz),m,(AH.set_ne _ _ hne).trans hm,hk⟩
theorem Kt.weak {g:List Pd} {l:List Tk} {dn:Sp→List Int} {rk:Nat} {Hb Hb' H:AH} (h:Kt g l dn rk Hb' H) (hs:SubH Hb Hb'):Kt g l dn rk Hb H:=⟨hs.trans h.1,h.2⟩
theorem Kt.mono {g:List Pd} {l:List Tk} {dn:Sp→List Int} {rk:Nat} {Hb H H':AH} (h:Kt g l dn rk Hb H) (hs:SubH H H'):Kt g l dn rk Hb H':=by
 obtain ⟨h1,m,hm,hk⟩:=h;exact ⟨h1.trans hs,m,hs _ _ hm,hk⟩
theorem can_ok {g:List Pd} {l:List Tk} {dn:Sp→List Int} {rc rk:Nat} (hd:DOk g l dn) {r:Rs} (hr:rOk g l r) (hco:CanOK g l dn rc rk 131 r):CanOK g l dn rc rk 104 r:=by
 intro Hb H K hc hk hK;have hnn:=hd.gok.n;have hgl:=hd.gok.len;have hil:=WK hd.gok hr.1;obtain ⟨r1,r2,r3,r4⟩:=hr;have hok:rsOk r:=⟨by omega,by omega,by omega,by omega⟩
 obtain ⟨⟨rs,rd,vd,h1,h2,h3⟩,h4⟩:=hc;have hc:FCh g l dn rc rk Hb:=⟨⟨rs,rd,vd,h1,h2,h3⟩,h4⟩
 obtain ⟨hs,m,hm,hkn⟩:=hk;have hk:Kt g l dn rk Hb H:=⟨hs,m,hm,hkn⟩
 have qc:=hs _ _ h1;have hne:¬ rc=rk:=fun e=>by subst e; rw [h4] at h1; cases h1
 clear h2 h3;refine Zy fd104 (by simp) ?_;delta c104 Zj Zq Za Zr Zd Zb Zh Zc Zo;replace hK:=Hold.mk hK;replace hk:=Hold.mk hk;replace hco:=Hold.mk hco;replace hc:=Hold.mk hc;cases hmr:m r with
 | some v =>
   have hv:=hkn r v hmr
   have hlk:∀ (H':AH) (K':VE→AH→Prop),H' rk=some (.map (ZW Try.prog 125) (kmap rsK m))→K' (.ret (.tuple [boolV (canF g l dn r),boolV true])) H'→XP Try.prog 125 (mapV rk) (.agg [iV r.prod,iV r.dot,iV r.from_,iV r.to]) true H' K':=fun H' K' hr hk=>by
    refine Za1 (kx:=rsVV) (a:=r) kmRs hok hr (fun y hy=>?_) (fun hy=>?_)
    ·rw [hmr] at hy; cases hy; rw [hv]; exact hk
    ·rw [hmr] at hy; cases hy
   clear hmr hv hkn
   (repeat' (first | (refine hlk _ _ ((AH.set_ne _ _ zn_hm.1).trans hm) ?_) | (simp only [↓Ya,↓Ye,↓ZZ,↓Yb,↓Xe,↓XF,↓ZY,↓ZF,↓ZD,↓Xs,↓ZG,↓ZH,↓ZJ,↓ZI,↓ZP,↓Zv,↓ZR,↓ZE,↓ZS,↓Yh,↓Wx,↓ZA,↓Wn,↓Xj,vcNil,Yw,ptrV,boolV,Zmq,Zmr,Zms,ite_true,ite_false,Zl9,Zma,ne_eq,not_false_eq_true,true_and,Zme,reduceCtorEq,Zx,↓Xc,↓Xg,↓Xm,AH.get,eq_self,Zmh,Zmb,ZmC,ZmD,Yq,Jk,YB,↓Wz,Yn,YK,Yo,Yp,YG,↓Wy,↓XM,undef,ZgU,ZkH,ZkG, *]) | (refine ZC ?_) | (refine Yf mixed (fun _ _ _ _ e h=>⟨e.trans h.1,h.2⟩) _ (SubH.refl _) ?_) | (refine Zw fun zr zh=>?_; have zg:=zh; (try simp only [AH.set_none] at zg); (try have zn_qc:=AH.ne_of qc zh); (try have zn_qc:=AH.ne_of qc zg.2); (try have zn_qc:=AH.ne_of qc zg.2.2); (try have zn_qc:=AH.ne_of qc zg.2.2.2); (try have zn_qc:=AH.ne_of qc zg.2.2.2.2); (try have zn_hm:=AH.ne_of hm zh); (try have zn_hm:=AH.ne_of hm zg.2); (try have zn_hm:=AH.ne_of hm zg.2.2); (try have zn_hm:=AH.ne_of hm zg.2.2.2); (try have zn_hm:=AH.ne_of hm zg.2.2.2.2)) | (exact SubH.refl _) | (with_reducible refine And.intro ?_ ?_)))
   exact hK.out _ (hk.out.skip (by assumption) _)
 | none =>
   have hlk:∀ (H':AH) (K':VE→AH→Prop),H' rk=some (.map (ZW Try.prog 125) (kmap rsK m))→K' (.ret (.tuple [boolV false,boolV false])) H'→XP Try.prog 125 (mapV rk) (.agg [iV r.prod,iV r.dot,iV r.from_,iV r.to]) true H' K':=fun H' K' hr hk=>by
    refine Za1 (kx:=rsVV) (a:=r) kmRs hok hr (fun y hy=>?_) (fun hy=>?_)
    ·rw [hmr] at hy; cases hy
    ·exact hk
   have hcall:∀ z b,H z=none→∀ K':VE→AH→Prop,(∀ H' m',H' rc=some (.cells 127 [pdsV g,tksV l,.lit (.slice (some ⟨rs,0,none⟩) (l.length+1) (l.length+1)),mapV rd,mapV rk] 0)→H' z=some b→H' rk=some (.map (ZW Try.prog 125) (kmap rsK m'))→Kt g l dn rk Hb H'→(∀ r v,m' r=some v→v=boolV (canF g l dn r))→K' (.ret (boolV (canF g l dn r))) H')→ZO Try.prog 131 [ptrV rc 0,.agg [iV r.prod,iV r.dot,iV r.from_,iV r.to]] (H.set z b) K':=fun z b hz K' hk'=>by
    obtain ⟨ka,kc⟩:=Kt.alloc hc.out hk.out hz b;refine hco.out _ _ _ kc ka fun H' hK'=>?_
    obtain ⟨hs',m',hm',hk2⟩:=hK';have hz2:Hb z=none:=hs.none hz;have hrz:¬ rc=z:=fun e=>by subst e; rw [h1] at hz2; cases hz2
    exact hk' H' m' (hs' _ _ ((AH.set_ne _ _ hrz).trans h1)) (hs' _ _ (AH.set_same _ _ _)) hm' ⟨(SubH.new hz2).trans hs',m',hm',hk2⟩ hk2
   have hup:∀ (H':AH) (m':Rs→Option VV) (K':VE→AH→Prop),H' rk=some (.map (ZW Try.prog 125) (kmap rsK m'))→K' (.ret Zx) (H'.set rk (.map (ZW Try.prog 125) (kmap rsK (kupd m' r (boolV (canF g l dn r))))))→XY Try.prog 125 (mapV rk) (.agg [iV r.prod,iV r.dot,iV r.from_,iV r.to]) (boolV (canF g l dn r)) H' K':=fun H' m' K' hr hk=>by
    exact Zef (kx:=rsVV) (a:=r) kmRs hok hr hk
   clear hmr hkn
   (repeat' (first | (refine hlk _ _ ((AH.set_ne _ _ zn_hm.1).trans hm) ?_) | (refine hcall _ _ (by assumption) _ (fun H3 m3 c3 z3 k3 t3 f3=>?_)) | (refine hup _ _ _ k3 ?_) | (simp only [↓Yt,↓Ya,↓Ye,↓ZZ,↓Yv,↓Xe,↓XF,↓ZY,↓ZF,↓ZD,↓ZG,↓ZH,↓YX,↓ZJ,↓YY,↓ZI,↓ZP,↓ZU,↓Zv,↓ZR,↓ZE,↓ZS,↓Yh,↓Wx,↓ZA,↓Wn,↓WO,↓Xj,↓ZK,↓ZL,vcNil,Yw,ptrV,boolV,Zmd,Zmg,Zmq,Zmr,Zms,ite_true,ite_false,Zl9,Zma,ne_eq,not_false_eq_true,true_and,Zme,reduceCtorEq,Zx,↓Xc,↓Xg,↓Xm,AH.get,eq_self,Zmh,Zmb,ZmC,ZmD,Yq,Jk,YB,↓Wz,Yn,YK,Yo,Yp,YG,↓Wy,↓XM,undef,ZgU,ZkH,ZkG,en_131, *]) | (refine ZC ?_) | (refine Yf mixed (fun _ _ _ _ e h=>⟨e.trans h.1,h.2⟩) _ (SubH.refl _) ?_) | (refine Zw fun zr zh=>?_; have zg:=zh; (try simp only [AH.set_none] at zg); (try have zn_qc:=AH.ne_of qc zh); (try have zn_qc:=AH.ne_of qc zg.2); (try have zn_qc:=AH.ne_of qc zg.2.2); (try have zn_qc:=AH.ne_of qc zg.2.2.2); (try have zn_qc:=AH.ne_of qc zg.2.2.2.2); (try have zn_hm:=AH.ne_of hm zh); (try have zn_hm:=AH.ne_of hm zg.2); (try have zn_hm:=AH.ne_of hm zg.2.2); (try have zn_hm:=AH.ne_of hm zg.2.2.2); (try have zn_hm:=AH.ne_of hm zg.2.2.2.2)) | (exact SubH.refl _) | (with_reducible refine And.intro ?_ ?_)))
   refine hK.out _ ⟨t3.1.of_set h4,_,AH.set_same _ _ _,fun r' v hv=>?_⟩;by_cases e:r'=r
   ·subst e; rw [Za0] at hv; cases hv; rfl
   ·rw [ZdS _ _ e] at hv; exact f3 r' v hv
end Go.PV.Ytfkkmdelpddojaa
end
